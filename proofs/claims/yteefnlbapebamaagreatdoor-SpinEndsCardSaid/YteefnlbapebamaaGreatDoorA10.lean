/-
  Part 10 of the proof texts: the program logic over the model, then the contracts of the functions that the laws reach. No conditions.
-/
import Derived.Test.YteefnlbapebamaaGreatDoorA9
import Derived.WalkKit
import Derived.LaidEql
import Derived.Stop.Asserts
import Derived.RowKitTokens
set_option linter.unusedVariables false
set_option linter.unusedSimpArgs false
set_option maxHeartbeats 2000000
section
set_option maxRecDepth 100000
namespace Go.AL
open Go Go.Proofs
attribute [local irreducible] J
theorem right_yes (w : Wd) (h : WdR w) : ACalls Tryz.prog 46 [encWd w] [] (one (bv true) []) := by
 have := wd_right w h.size
 rwa [wRight_iff.2 h] at this
theorem runW_right {w : Wd} (h : WdR w) : ∀ (l : List Act) (n : Nat), WdR (l.foldl (fun s a => ((actW s.1 a).1, cond (actW s.1 a).2 (s.2 + 1) s.2)) (w, n)).1 ∧ (l.foldl (fun s a => ((actW s.1 a).1, cond (actW s.1 a).2 (s.2 + 1) s.2)) (w, n)).1.evs.length ≤ w.evs.length + l.length ∧
  (l.foldl (fun s a => ((actW s.1 a).1, cond (actW s.1 a).2 (s.2 + 1) s.2)) (w, n)).2 ≤ n + l.length := by
 intro l
 induction l generalizing w with
 | nil => intro n; exact ⟨h, Nat.le_refl _, Nat.le_refl _⟩
 | cons a l ih =>
  intro n
  obtain ⟨a1, a2, _⟩ := actW_right a h
  obtain ⟨b1, b2, b3⟩ := ih a1 (cond (actW w a).2 (n + 1) n)
  refine ⟨b1, ?_, ?_⟩
  ·simp only [List.foldl_cons, List.length_cons]; omega
  ·simp only [List.foldl_cons, List.length_cons]
   have : cond (actW w a).2 (n + 1) n ≤ n + 1 := by cases (actW w a).2 <;> simp
   omega
theorem run_succ (w : Wd) (l : List Act) (q : Nat) (hq : q < l.length) : runW w (l.take (q + 1)) = ((actW (runW w (l.take q)).1 (at' l (q : Int))).1, cntB (runW w (l.take q)).2 (actW (runW w (l.take q)).1 (at' l (q : Int))).2) := by
 unfold runW
 rw [at_nat l q hq, List.take_add_one, List.getElem?_eq_getElem hq, List.foldl_append]
 rfl
def w0C : List AVal := [.sl [], .sl [], .sl [], iv 0, .sl [], .sl [], .sl []]
theorem run_ok (w : Wd) (l : List Act) (h : WdR w) (he : w.evs.length ≤ 900000) (hl : l.length ≤ 100000) : ACalls Tryz.prog 17 [encWd w, .sl (l.map encAct)] [] (one (.tup [encWd (runW w l).1, iv ((runW w l).2 : Int), iv 0]) []) := by
 have h1 := right_yes w h
 unfold encWd wCells ivs at *
 refine jcalls Tryz.func17 rfl (by kernel_rfl) Tryz.ntmps17 rfl rfl (fun w0 β0 ext hβ => ?_)
 repeat (first | refine jS ?_ | refine jD ?_ | refine jB ?_ | refine jV h1 ?_)
 refine jfin 3 [2, 4, 5, 6, 7, 17, 18, 19] true rfl rfl rfl (by show β0.length ≤ 3; rw [hβ]; exact Nat.zero_le _) ?_
 refine jloop 3 (fun q : Nat => q ≤ l.length) [2, 4, 5, 6, 7, 17, 18, 19] (fun q => [.ptr 0 0, .ptr 1 0, iv 0, iv 0, .ptr 2 0, .sl (l.map encAct), .v (.int .i64 ((l.map encAct).length : Int)), .v (.int .i64 (q : Int))])
  (fun q => [.box 33 (wCells w), .box 33 w0C, .box 100 (xC (runW w (l.take q)).1 (runW w (l.take q)).2)]) (fun q => l.length - q) 0 (by show β0.length ≤ 3; rw [hβ]; exact Nat.zero_le _) (Nat.zero_le _) rfl rfl (fun q hq => ?_)
 obtain ⟨b1, b2, b3⟩ := runW_right h (l.take q) 0
 rw [show (l.take q).foldl (fun s a => ((actW s.1 a).1, cond (actW s.1 a).2 (s.2 + 1) s.2)) (w, 0) = runW w (l.take q) from rfl] at b1 b2 b3
 rw [List.length_take] at b2 b3
 unfold wCells ivs xC w0C
 repeat (first | refine jS ?_ | refine jD ?_ | refine jB ?_)
 refine jc rfl rfl rfl (fun h => ?_) (fun h => ?_)
 ·have h := of_decide_eq_true h
  rw [List.length_map] at h
  have hq2 : q < l.length := by omega
  have hs := run_succ w l q hq2
  have hidx : IntKind.i64.wrap ((q : Int) + 1) = ((q + 1 : Nat) : Int) := idx_next hq2 (by omega)
  have ha := act_ok (runW w (l.take q)).1 (runW w (l.take q)).2 (at' l (q : Int)) b1 (by omega) (by omega)
  generalize runW w (l.take q) = r at *
  unfold encAct at ha
  unfold xH xC at ha
  repeat (first | refine jS ?_ | refine jD ?_ | refine jB ?_ | refine jo rfl rfl (index_at rfl rfl rfl rfl rfl rfl rfl rfl (Int.natCast_nonneg q) h) rfl rfl ?_)
  refine jb [2] ha rfl rfl rfl ⟨rfl, rfl, rfl, rfl, rfl, rfl⟩ rfl rfl rfl rfl ?_
  repeat (first | refine jS ?_ | refine jD ?_ | refine jB ?_)
  refine jnext (q + 1) hq2 (by omega) rfl rfl rfl ?_ ?_
  ·rw [hidx]; rfl
  ·rw [hs]; rfl
 ·have h := of_decide_eq_false h
  rw [List.length_map] at h
  have : q = l.length := by omega
  subst this
  rw [List.take_length]
  generalize runW w l = r at *
  repeat (first | refine jS ?_ | refine jB ?_)
  refine jmid [4, 5, 6] [.ptr 1 0, iv (r.2 : Int), iv 0] [.box 33 (wCells w), .box 33 (wCells r.1), .box 100 (xC r.1 r.2)] ?_ ?_
  ·unfold wCells ivs xC
   generalize w.code.map encIns = d1
   generalize w.tso.mem.words.map iv = d2
   generalize w.tso.mem.tags.map iv = d3
   generalize w.tso.bufs.map encBuf = d4
   generalize w.thr.map encThr = d5
   generalize w.evs.map encEvt = d6
   refine jorders (Ls := [[0, 1, 2, 3, 4, 5, 6, 7, 8, 9, 10], [0, 1, 2, 3, 4, 5, 6, 8, 7, 9, 10], [0, 1, 2, 3, 4, 5, 8, 6, 7, 9, 10], [0, 1, 2, 3, 4, 8, 5, 6, 7, 9, 10], [0, 1, 2, 3, 8, 4, 5, 6, 7, 9, 10], [0, 1, 2, 4, 3, 5, 6, 7, 8, 9, 10], [0, 1, 2, 4, 3, 5, 6, 8, 7, 9, 10], [0, 1, 2, 4, 3, 5, 8, 6, 7, 9, 10], [0, 1, 2, 4, 3, 8, 5, 6, 7, 9, 10], [0, 1, 2, 4, 5, 3, 6, 7, 8, 9, 10], [0, 1, 2, 4, 5, 3, 6, 8, 7, 9, 10], [0, 1, 2, 4, 5, 3, 8, 6, 7, 9, 10], [0, 1, 2, 4, 5, 6, 3, 7, 8, 9, 10], [0, 1, 2, 4, 5, 6, 3, 8, 7, 9, 10], [0, 1, 2, 4, 5, 6, 7, 3, 8, 9, 10], [0, 1, 4, 2, 3, 5, 6, 7, 8, 9, 10], [0, 1, 4, 2, 3, 5, 6, 8, 7, 9, 10], [0, 1, 4, 2, 3, 5, 8, 6, 7, 9, 10], [0, 1, 4, 2, 3, 8, 5, 6, 7, 9, 10], [0, 1, 4, 2, 5, 3, 6, 7, 8, 9, 10], [0, 1, 4, 2, 5, 3, 6, 8, 7, 9, 10], [0, 1, 4, 2, 5, 3, 8, 6, 7, 9, 10], [0, 1, 4, 2, 5, 6, 3, 7, 8, 9, 10], [0, 1, 4, 2, 5, 6, 3, 8, 7, 9, 10], [0, 1, 4, 2, 5, 6, 7, 3, 8, 9, 10], [0, 1, 4, 5, 2, 3, 6, 7, 8, 9, 10], [0, 1, 4, 5, 2, 3, 6, 8, 7, 9, 10], [0, 1, 4, 5, 2, 3, 8, 6, 7, 9, 10], [0, 1, 4, 5, 2, 6, 3, 7, 8, 9, 10], [0, 1, 4, 5, 2, 6, 3, 8, 7, 9, 10], [0, 1, 4, 5, 2, 6, 7, 3, 8, 9, 10], [0, 1, 4, 5, 6, 2, 3, 7, 8, 9, 10], [0, 1, 4, 5, 6, 2, 3, 8, 7, 9, 10], [0, 1, 4, 5, 6, 2, 7, 3, 8, 9, 10], [0, 1, 4, 5, 6, 7, 2, 3, 8, 9, 10], [0, 4, 1, 2, 3, 5, 6, 7, 8, 9, 10], [0, 4, 1, 2, 3, 5, 6, 8, 7, 9, 10], [0, 4, 1, 2, 3, 5, 8, 6, 7, 9, 10], [0, 4, 1, 2, 3, 8, 5, 6, 7, 9, 10], [0, 4, 1, 2, 5, 3, 6, 7, 8, 9, 10], [0, 4, 1, 2, 5, 3, 6, 8, 7, 9, 10], [0, 4, 1, 2, 5, 3, 8, 6, 7, 9, 10], [0, 4, 1, 2, 5, 6, 3, 7, 8, 9, 10], [0, 4, 1, 2, 5, 6, 3, 8, 7, 9, 10], [0, 4, 1, 2, 5, 6, 7, 3, 8, 9, 10], [0, 4, 1, 5, 2, 3, 6, 7, 8, 9, 10], [0, 4, 1, 5, 2, 3, 6, 8, 7, 9, 10], [0, 4, 1, 5, 2, 3, 8, 6, 7, 9, 10], [0, 4, 1, 5, 2, 6, 3, 7, 8, 9, 10], [0, 4, 1, 5, 2, 6, 3, 8, 7, 9, 10], [0, 4, 1, 5, 2, 6, 7, 3, 8, 9, 10], [0, 4, 1, 5, 6, 2, 3, 7, 8, 9, 10], [0, 4, 1, 5, 6, 2, 3, 8, 7, 9, 10], [0, 4, 1, 5, 6, 2, 7, 3, 8, 9, 10], [0, 4, 1, 5, 6, 7, 2, 3, 8, 9, 10], [0, 4, 5, 1, 2, 3, 6, 7, 8, 9, 10], [0, 4, 5, 1, 2, 3, 6, 8, 7, 9, 10], [0, 4, 5, 1, 2, 3, 8, 6, 7, 9, 10], [0, 4, 5, 1, 2, 6, 3, 7, 8, 9, 10], [0, 4, 5, 1, 2, 6, 3, 8, 7, 9, 10], [0, 4, 5, 1, 2, 6, 7, 3, 8, 9, 10], [0, 4, 5, 1, 6, 2, 3, 7, 8, 9, 10], [0, 4, 5, 1, 6, 2, 3, 8, 7, 9, 10], [0, 4, 5, 1, 6, 2, 7, 3, 8, 9, 10], [0, 4, 5, 1, 6, 7, 2, 3, 8, 9, 10], [0, 4, 5, 6, 1, 2, 3, 7, 8, 9, 10], [0, 4, 5, 6, 1, 2, 3, 8, 7, 9, 10], [0, 4, 5, 6, 1, 2, 7, 3, 8, 9, 10], [0, 4, 5, 6, 1, 7, 2, 3, 8, 9, 10], [0, 4, 5, 6, 7, 1, 2, 3, 8, 9, 10], [4, 0, 1, 2, 3, 5, 6, 7, 8, 9, 10], [4, 0, 1, 2, 3, 5, 6, 8, 7, 9, 10], [4, 0, 1, 2, 3, 5, 8, 6, 7, 9, 10], [4, 0, 1, 2, 3, 8, 5, 6, 7, 9, 10], [4, 0, 1, 2, 5, 3, 6, 7, 8, 9, 10], [4, 0, 1, 2, 5, 3, 6, 8, 7, 9, 10], [4, 0, 1, 2, 5, 3, 8, 6, 7, 9, 10], [4, 0, 1, 2, 5, 6, 3, 7, 8, 9, 10], [4, 0, 1, 2, 5, 6, 3, 8, 7, 9, 10], [4, 0, 1, 2, 5, 6, 7, 3, 8, 9, 10], [4, 0, 1, 5, 2, 3, 6, 7, 8, 9, 10], [4, 0, 1, 5, 2, 3, 6, 8, 7, 9, 10], [4, 0, 1, 5, 2, 3, 8, 6, 7, 9, 10], [4, 0, 1, 5, 2, 6, 3, 7, 8, 9, 10], [4, 0, 1, 5, 2, 6, 3, 8, 7, 9, 10], [4, 0, 1, 5, 2, 6, 7, 3, 8, 9, 10], [4, 0, 1, 5, 6, 2, 3, 7, 8, 9, 10], [4, 0, 1, 5, 6, 2, 3, 8, 7, 9, 10], [4, 0, 1, 5, 6, 2, 7, 3, 8, 9, 10], [4, 0, 1, 5, 6, 7, 2, 3, 8, 9, 10], [4, 0, 5, 1, 2, 3, 6, 7, 8, 9, 10], [4, 0, 5, 1, 2, 3, 6, 8, 7, 9, 10], [4, 0, 5, 1, 2, 3, 8, 6, 7, 9, 10], [4, 0, 5, 1, 2, 6, 3, 7, 8, 9, 10], [4, 0, 5, 1, 2, 6, 3, 8, 7, 9, 10], [4, 0, 5, 1, 2, 6, 7, 3, 8, 9, 10], [4, 0, 5, 1, 6, 2, 3, 7, 8, 9, 10], [4, 0, 5, 1, 6, 2, 3, 8, 7, 9, 10], [4, 0, 5, 1, 6, 2, 7, 3, 8, 9, 10], [4, 0, 5, 1, 6, 7, 2, 3, 8, 9, 10], [4, 0, 5, 6, 1, 2, 3, 7, 8, 9, 10], [4, 0, 5, 6, 1, 2, 3, 8, 7, 9, 10], [4, 0, 5, 6, 1, 2, 7, 3, 8, 9, 10], [4, 0, 5, 6, 1, 7, 2, 3, 8, 9, 10], [4, 0, 5, 6, 7, 1, 2, 3, 8, 9, 10], [4, 5, 0, 1, 2, 3, 6, 7, 8, 9, 10], [4, 5, 0, 1, 2, 3, 6, 8, 7, 9, 10], [4, 5, 0, 1, 2, 3, 8, 6, 7, 9, 10], [4, 5, 0, 1, 2, 6, 3, 7, 8, 9, 10], [4, 5, 0, 1, 2, 6, 3, 8, 7, 9, 10], [4, 5, 0, 1, 2, 6, 7, 3, 8, 9, 10], [4, 5, 0, 1, 6, 2, 3, 7, 8, 9, 10], [4, 5, 0, 1, 6, 2, 3, 8, 7, 9, 10], [4, 5, 0, 1, 6, 2, 7, 3, 8, 9, 10], [4, 5, 0, 1, 6, 7, 2, 3, 8, 9, 10], [4, 5, 0, 6, 1, 2, 3, 7, 8, 9, 10], [4, 5, 0, 6, 1, 2, 3, 8, 7, 9, 10], [4, 5, 0, 6, 1, 2, 7, 3, 8, 9, 10], [4, 5, 0, 6, 1, 7, 2, 3, 8, 9, 10], [4, 5, 0, 6, 7, 1, 2, 3, 8, 9, 10], [4, 5, 6, 0, 1, 2, 3, 7, 8, 9, 10], [4, 5, 6, 0, 1, 2, 3, 8, 7, 9, 10], [4, 5, 6, 0, 1, 2, 7, 3, 8, 9, 10], [4, 5, 6, 0, 1, 7, 2, 3, 8, 9, 10], [4, 5, 6, 0, 7, 1, 2, 3, 8, 9, 10], [4, 5, 6, 7, 0, 1, 2, 3, 8, 9, 10]]) (by kernel_rfl) ?_
   repeat' (first | exact List.forall_mem_nil _ | refine List.forall_mem_cons.2 ⟨?_, ?_⟩)
   all_goals (
    repeat (first | refine jS ?_ | refine jD ?_ | refine jB ?_)
   )
   all_goals exact jmeet rfl rfl
  ·unfold wCells ivs xC
   repeat (first | refine jS ?_ | refine jD ?_ | refine jB ?_)
   exact jR
end Go.AL
end
section
set_option maxRecDepth 100000
namespace Go.AL
open Go Go.Proofs
attribute [local irreducible] J
theorem idle_iff {w : Wd} : idleW w = true ↔ ∀ k, k < w.tso.bufs.length → (canW w k || decide (0 < (bufAt w.tso k).length)) = false := by
 unfold idleW
 rw [List.all_eq_true]
 constructor
 ·intro h k hk
  have := h k (List.mem_range.2 hk)
  simp only [Bool.and_eq_true, Bool.not_eq_true', decide_eq_true_eq] at this
  rw [this.1, this.2]; rfl
 ·intro h k hk
  have := h k (List.mem_range.1 hk)
  simp only [Bool.or_eq_false_iff, decide_eq_false_iff_not] at this
  simp only [Bool.and_eq_true, Bool.not_eq_true', decide_eq_true_eq]
  exact ⟨this.1, by omega⟩
theorem sidle_ok (w : Wd) (h : WdR w) : ACalls Tryz.prog 47 [encWd w] [] (one (bv (idleW w)) []) := by
 have hb8 := h.tso.sz
 have h1 := fun k (hk : k < w.tso.bufs.length) => cans_ok w k h (by rw [h.len]; exact hk)
 unfold encWd wCells ivs at *
 refine jcalls Tryz.func47 rfl (by kernel_rfl) Tryz.ntmps47 rfl rfl (fun w0 β0 ext hβ => ?_)
 repeat (first | refine jS ?_ | refine jD ?_ | refine jB ?_)
 refine jloop 1 (fun q : Nat => q ≤ w.tso.bufs.length ∧ ∀ k, k < q → (canW w k || decide (0 < (bufAt w.tso k).length)) = false) [1, 2, 9, 10, 11] (fun q => [.ptr 0 0, bv false, .sl (w.tso.bufs.map encBuf), .v (.int .i64 ((w.tso.bufs.map encBuf).length : Int)), .v (.int .i64 (q : Int))])
  (fun q => [.box 33 (wCells w)]) (fun q => w.tso.bufs.length - q) 0 (by show β0.length ≤ 1; rw [hβ]; exact Nat.zero_le _) ⟨Nat.zero_le _, fun k hk => absurd hk (Nat.not_lt_zero _)⟩ rfl rfl (fun q hq => ?_)
 obtain ⟨hq, hok⟩ := hq
 unfold wCells ivs
 repeat (first | refine jS ?_ | refine jD ?_ | refine jB ?_)
 refine jc rfl rfl rfl (fun h => ?_) (fun h => ?_)
 ·have h := of_decide_eq_true h
  rw [List.length_map] at h
  have hq2 : q < w.tso.bufs.length := by omega
  have h1 := h1 q hq2
  have hidx : IntKind.i64.wrap ((q : Int) + 1) = ((q + 1 : Nat) : Int) := idx_next hq2 (by omega)
  have hnx : (canW w q || decide (0 < (bufAt w.tso q).length)) = false → ∀ k, k < q + 1 → (canW w k || decide (0 < (bufAt w.tso k).length)) = false := fun hb k hk => by
   by_cases e : k = q
   ·subst e; exact hb
   ·exact hok k (by omega)
  have hno : (canW w q || decide (0 < (bufAt w.tso q).length)) = true → idleW w = false := fun hb => by
   cases hi : idleW w with
   | false => rfl
   | true => have := idle_iff.1 hi q hq2; rw [hb] at this; cases this
  have hd : decide ((((at' w.tso.bufs (q : Int)).map encPut).length : Int) > 0) = decide (0 < (bufAt w.tso q).length) := by rw [List.length_map, bufAt_at]; exact decide_eq_decide.2 (by omega)
  generalize canW w q = b at *
  repeat (first | refine jS ?_ | refine jD ?_ | refine jB ?_ | refine jo rfl rfl (index_at rfl rfl rfl rfl rfl rfl rfl rfl (Int.natCast_nonneg q) h) rfl rfl ?_ | refine jV h1 ?_)
  cases b with
  | true =>
   rw [hno rfl]
   repeat (first | refine jS ?_ | refine jD ?_ | refine jB ?_)
   exact jR
  | false =>
   repeat (first | refine jS ?_ | refine jD ?_ | refine jB ?_)
   rw [hd]
   cases hb : decide (0 < (bufAt w.tso q).length) with
   | true =>
    rw [hb] at hno
    rw [hno rfl]
    repeat (first | refine jS ?_ | refine jD ?_ | refine jB ?_)
    exact jR
   | false =>
    rw [hb] at hnx
    repeat (first | refine jS ?_ | refine jD ?_ | refine jB ?_)
    refine jnext (q + 1) ⟨hq2, hnx rfl⟩ (by omega) rfl rfl rfl ?_ rfl
    rw [hidx]; rfl
 ·have h := of_decide_eq_false h
  rw [List.length_map] at h
  rw [idle_iff.2 fun k hk => hok k (by omega)]
  repeat (first | refine jS ?_ | refine jD ?_ | refine jB ?_)
  exact jR
theorem sIdle_ok (w : Wd) (h : WdR w) : ACalls Tryz.prog 24 [encWd w] [] (one (.tup [bv (idleW w), iv 0]) []) := by
 have h1 := right_yes w h
 have h2 := sidle_ok w h
 unfold encWd wCells ivs at *
 refine jcalls Tryz.func24 rfl (by kernel_rfl) Tryz.ntmps24 rfl rfl (fun w0 β0 ext hβ => ?_)
 repeat (first | refine jS ?_ | refine jD ?_ | refine jB ?_ | refine jV h1 ?_ | refine jV h2 ?_)
 exact jR
def rdP (s : Wd × Nat) (k : Nat) : Wd × Nat := (List.range k).foldl (fun (s : Wd × Nat) (i : Nat) => ((actW (actW s.1 ⟨0, i⟩).1 ⟨1, i⟩).1, cntB (cntB s.2 (actW s.1 ⟨0, i⟩).2) (actW (actW s.1 ⟨0, i⟩).1 ⟨1, i⟩).2)) s
theorem rdP_succ (s : Wd × Nat) (k : Nat) : rdP s (k + 1) = ((actW (actW (rdP s k).1 ⟨0, k⟩).1 ⟨1, k⟩).1, cntB (cntB (rdP s k).2 (actW (rdP s k).1 ⟨0, k⟩).2) (actW (actW (rdP s k).1 ⟨0, k⟩).1 ⟨1, k⟩).2) := by
 unfold rdP
 rw [List.range_succ, List.foldl_append]
 rfl
theorem rdP_round (w : Wd) (n : Nat) : (rdP (w, n) w.thr.length).1 = roundW w := by
 unfold rdP roundW
 generalize List.range w.thr.length = l
 generalize hs : (w, n) = s
 have e : w = s.1 := by rw [← hs]
 rw [e]
 clear hs e
 induction l generalizing s with
 | nil => rfl
 | cons a l ih => exact ih _
theorem cntB_le (n : Nat) (b : Bool) : cntB n b ≤ n + 1 := by cases b <;> simp [cntB]
theorem rdP_right {s : Wd × Nat} (h : WdR s.1) : ∀ k, WdR (rdP s k).1 ∧ (rdP s k).1.evs.length ≤ s.1.evs.length + 2 * k ∧ (rdP s k).2 ≤ s.2 + 2 * k ∧ (rdP s k).1.thr.length = s.1.thr.length ∧ (rdP s k).1.code = s.1.code
 | 0 => ⟨h, Nat.le_refl _, Nat.le_refl _, rfl, rfl⟩
 | k + 1 => by
  obtain ⟨a1, a2, a3, a4, a5⟩ := rdP_right h k
  rw [rdP_succ]
  generalize rdP s k = r at *
  obtain ⟨b1, b2, b3, b4⟩ := actW_right ⟨0, k⟩ a1
  obtain ⟨c1, c2, c3, c4⟩ := actW_right ⟨1, k⟩ b1
  have d1 := cntB_le r.2 (actW r.1 ⟨0, k⟩).2
  have d2 := cntB_le (cntB r.2 (actW r.1 ⟨0, k⟩).2) (actW (actW r.1 ⟨0, k⟩).1 ⟨1, k⟩).2
  exact ⟨c1, by simp only; omega, by simp only; omega, by rw [c3, b3, a4], by rw [c4, b4, a5]⟩
structure RdI (w : Wd) (m : Nat) (s : Nat × Wd × Nat) : Prop where
 le : s.1 ≤ m
 right : WdR s.2.1
 thr : s.2.1.thr.length = w.thr.length
 evs : s.2.1.evs.length ≤ w.evs.length + 16 * s.1
 cnt : s.2.2 ≤ 16 * s.1
 eq : roundsW w m = ((roundsW s.2.1 (m - s.1)).1, s.1 + (roundsW s.2.1 (m - s.1)).2)
theorem rounds_ok (w : Wd) (m : Nat) (h : WdR w) (he : w.evs.length ≤ 500000) (hm : m ≤ 10000) : ACalls Tryz.prog 13 [encWd w, iv (m : Int)] [] (one (.tup [encWd (roundsW w m).1, iv ((roundsW w m).2 : Int), iv 0]) []) := by
 have h1 := right_yes w h
 have hb8 := h.tso.sz
 have hl8 : w.thr.length ≤ 8 := by rw [h.len]; omega
 have e1 : decide ((m : Int) < 0) = false := decide_eq_false (by omega)
 have e2 : decide ((m : Int) > 10000) = false := decide_eq_false (by omega)
 unfold encWd wCells ivs at *
 refine jcalls Tryz.func13 rfl (by kernel_rfl) Tryz.ntmps13 rfl rfl (fun w0 β0 ext hβ => ?_)
 repeat (first | refine jS ?_ | refine jD ?_ | refine jB ?_ | refine jV h1 ?_)
 rw [e1]
 repeat (first | refine jS ?_ | refine jD ?_ | refine jB ?_)
 rw [e2]
 repeat (first | refine jS ?_ | refine jD ?_ | refine jB ?_)
 refine jfin 3 [1, 2, 4, 5, 6, 7, 8] true rfl rfl rfl (by show β0.length ≤ 3; rw [hβ]; exact Nat.zero_le _) ?_
 refine jloop 3 (RdI w m) [1, 2, 4, 5, 6, 7, 8] (fun s => [iv (m : Int), .ptr 0 0, .ptr 1 0, iv 0, iv 0, .ptr 2 0, iv (s.1 : Int)])
  (fun s => [.box 33 (wCells w), .box 33 w0C, .box 100 (xC s.2.1 s.2.2)]) (fun s => m - s.1) (0, w, 0) (by show β0.length ≤ 3; rw [hβ]; exact Nat.zero_le _)
  ⟨Nat.zero_le _, h, rfl, Nat.le_refl _, Nat.le_refl _, by simp⟩ rfl rfl (fun s hs => ?_)
 obtain ⟨j, x, c⟩ := s
 obtain ⟨i1, i2, i3, i4, i5, i6⟩ := hs
 simp only at i1 i2 i3 i4 i5 i6
 have hid := sidle_ok x i2
 unfold wCells ivs xC w0C
 simp only
 repeat (first | refine jS ?_ | refine jD ?_ | refine jB ?_)
 by_cases hj : j < m
 ·rw [show decide ((j : Int) < (m : Int)) = true from decide_eq_true (by omega)]
  obtain ⟨m', hm'⟩ : ∃ m', m - j = m' + 1 := ⟨m - j - 1, by omega⟩
  rw [hm'] at i6
  unfold encWd wCells ivs at hid
  repeat (first | refine jS ?_ | refine jD ?_ | refine jB ?_ | refine jV hid ?_)
  cases hb : idleW x with
  | true =>
   have : roundsW w m = (x, j) := by
    rw [i6, roundsW, hb]; rfl
   rw [this]
   repeat (first | refine jS ?_ | refine jD ?_ | refine jB ?_)
   exact jR
  | false =>
   repeat (first | refine jS ?_ | refine jD ?_ | refine jB ?_)
   refine jloop 3 (fun q : Nat => q ≤ w.thr.length) [1, 2, 4, 5, 6, 7, 8, 38, 39] (fun q => [iv (m : Int), .ptr 0 0, .ptr 1 0, iv 0, iv 0, .ptr 2 0, iv (j : Int), .v (.int .i64 ((w.thr.map encThr).length : Int)), .v (.int .i64 (q : Int))])
    (fun q => [.box 33 (wCells w), .box 33 w0C, .box 100 (xC (rdP (x, c) q).1 (rdP (x, c) q).2)]) (fun q => w.thr.length - q) 0 (by show β0.length ≤ 3; rw [hβ]; exact Nat.zero_le _) (Nat.zero_le _) rfl rfl (fun q hq => ?_)
   obtain ⟨r1, r2, r3, r4, r5⟩ := rdP_right (s := (x, c)) i2 q
   simp only at r2 r3 r4
   unfold wCells ivs xC w0C
   repeat (first | refine jS ?_ | refine jD ?_ | refine jB ?_)
   refine jc rfl rfl rfl (fun h => ?_) (fun h => ?_)
   ·have h := of_decide_eq_true h
    rw [List.length_map] at h
    have hq2 : q < w.thr.length := by omega
    have hsc := rdP_succ (x, c) q
    have hidx : IntKind.i64.wrap ((q : Int) + 1) = ((q + 1 : Nat) : Int) := idx_next hq2 (by omega)
    have h3 := xstep_ok (rdP (x, c) q).1 (rdP (x, c) q).2 q r1 (by omega) (by omega)
    have hr := actW_right (w := (rdP (x, c) q).1) ⟨0, q⟩ r1
    have hc1 := cntB_le (rdP (x, c) q).2 (actW (rdP (x, c) q).1 ⟨0, q⟩).2
    have h4 := xflush_ok (actW (rdP (x, c) q).1 ⟨0, q⟩).1 (cntB (rdP (x, c) q).2 (actW (rdP (x, c) q).1 ⟨0, q⟩).2) q hr.1 (by omega)
    generalize actW (actW (rdP (x, c) q).1 ⟨0, q⟩).1 ⟨1, q⟩ = R2 at *
    generalize hR1 : actW (rdP (x, c) q).1 ⟨0, q⟩ = R1 at *
    generalize rdP (x, c) q = P at *
    unfold xH xC at h3 h4
    repeat (first | refine jS ?_ | refine jD ?_ | refine jB ?_)
    refine jb [2] h3 rfl rfl rfl ⟨rfl, rfl, rfl, rfl, rfl, rfl⟩ rfl rfl rfl rfl ?_
    repeat (first | refine jS ?_ | refine jD ?_ | refine jB ?_)
    refine jb [2] h4 rfl rfl rfl ⟨rfl, rfl, rfl, rfl, rfl, rfl⟩ rfl rfl rfl rfl ?_
    repeat (first | refine jS ?_ | refine jD ?_ | refine jB ?_)
    refine jnext (q + 1) hq2 (by omega) rfl rfl rfl ?_ ?_
    ·rw [hidx]; rfl
    ·rw [hsc]; rfl
   ·have h := of_decide_eq_false h
    rw [List.length_map] at h
    have hqe : q = w.thr.length := by omega
    subst hqe
    have hrd := rdP_round x c
    rw [i3] at hrd
    have hidx : IntKind.i64.wrap ((j : Int) + 1) = ((j + 1 : Nat) : Int) := by rw [wrap_id] <;> omega
    repeat (first | refine jS ?_ | refine jD ?_ | refine jB ?_)
    rw [hidx]
    repeat (first | refine jS ?_ | refine jD ?_ | refine jB ?_)
    refine jnext (j + 1, (rdP (x, c) w.thr.length).1, (rdP (x, c) w.thr.length).2) ⟨by simp only; omega, r1, by simp only; rw [r4, i3], by simp only; omega, by simp only; omega, ?_⟩ (by simp only; omega) rfl rfl rfl rfl rfl
    simp only
    rw [i6, roundsW, hb, hrd, show m - (j + 1) = m' by omega]
    simp only [cond_false]
    congr 1
    omega
 ·have : j = m := by omega
  subst this
  rw [show decide ((j : Int) < (j : Int)) = false from decide_eq_false (by omega)]
  have : roundsW w j = (x, j) := by
   rw [i6, Nat.sub_self]; rfl
  rw [this]
  repeat (first | refine jS ?_ | refine jD ?_ | refine jB ?_)
  exact jR
end Go.AL
end
section
set_option maxRecDepth 100000
namespace Go.AL
open Go Go.Proofs
structure Keeps (I : Wd → Prop) : Prop where
 step : ∀ w k, WdR w → I w → k < w.thr.length → canW w k = true → I (doW w k)
 flush : ∀ w k p r, WdR w → I w → k < w.thr.length → bufAt w.tso k = p :: r → I (flushD w k p r)
theorem inT_of {w : Wd} {k : Int} (h : inT w k = true) : ∃ q : Nat, k = (q : Int) ∧ q < w.thr.length := by
 unfold inT at h
 have := inn_iff.1 h
 exact ⟨k.toNat, by omega, by omega⟩
theorem act_keep {I : Wd → Prop} (h : Keeps I) {w : Wd} (hw : WdR w) (hI : I w) (a : Act) : I (actW w a).1 := by
 unfold actW
 split
 ·unfold stepW
  rw [wRight_iff.2 hw]
  cases hk : inT w a.who with
  | false => exact hI
  | true =>
   obtain ⟨q, e, hq⟩ := inT_of hk
   rw [e, Int.toNat_natCast]
   cases hc : canW w q with
   | false => exact hI
   | true => exact h.step w q hw hI hq hc
 ·unfold flushW
  rw [wRight_iff.2 hw]
  cases hk : inT w a.who with
  | false => exact hI
  | true =>
   obtain ⟨q, e, hq⟩ := inT_of hk
   rw [e, Int.toNat_natCast]
   cases hb : bufAt w.tso q with
   | nil => exact hI
   | cons p r => exact h.flush w q p r hw hI hq hb
 ·exact hI
theorem run_keep {I : Wd → Prop} (h : Keeps I) : ∀ (l : List Act) (w : Wd) (n : Nat), WdR w → I w → I (l.foldl (fun s a => ((actW s.1 a).1, cond (actW s.1 a).2 (s.2 + 1) s.2)) (w, n)).1
 | [], w, n, hw, hI => hI
 | a :: l, w, n, hw, hI => run_keep h l _ _ (actW_right a hw).1 (act_keep h hw hI a)
theorem round_keep {I : Wd → Prop} (h : Keeps I) {w : Wd} (hw : WdR w) (hI : I w) : WdR (roundW w) ∧ I (roundW w) := by
 unfold roundW
 generalize List.range w.thr.length = l
 induction l generalizing w with
 | nil => exact ⟨hw, hI⟩
 | cons k l ih =>
  have h1 := (actW_right ⟨0, k⟩ hw).1
  have h2 := act_keep h hw hI ⟨0, k⟩
  exact ih (actW_right ⟨1, k⟩ h1).1 (act_keep h h1 h2 ⟨1, k⟩)
theorem rounds_keep {I : Wd → Prop} (h : Keeps I) : ∀ (n : Nat) {w : Wd}, WdR w → I w → WdR (roundsW w n).1 ∧ I (roundsW w n).1
 | 0, w, hw, hI => ⟨hw, hI⟩
 | n + 1, w, hw, hI => by
  unfold roundsW
  cases idleW w with
  | true => exact ⟨hw, hI⟩
  | false =>
   obtain ⟨h1, h2⟩ := round_keep h hw hI
   exact rounds_keep h n h1 h2
theorem thrAt_set (w : Wd) {k : Nat} (t : Thr) (h : k < w.thr.length) (q : Nat) : thrAt (setT w k t) q = if q = k then t else thrAt w q := by
 unfold thrAt setT
 simp only [List.getD_eq_getElem?_getD, List.getElem?_set]
 by_cases e : q = k
 ·subst e; rw [if_pos rfl, if_pos rfl, if_pos h]; rfl
 ·rw [if_neg e, if_neg (fun e2 => e e2.symm)]
theorem bufAt_set (t : Tso) {k : Nat} (b : List Wput) (m : Mem) (h : k < t.bufs.length) (q : Nat) : bufAt ⟨m, t.depth, t.bufs.set k b⟩ q = if q = k then b else bufAt t q := by
 unfold bufAt
 simp only [List.getD_eq_getElem?_getD, List.getElem?_set]
 by_cases e : q = k
 ·subst e; rw [if_pos rfl, if_pos rfl, if_pos h]; rfl
 ·rw [if_neg e, if_neg (fun e2 => e e2.symm)]
theorem thr_mem {w : Wd} (hw : WdR w) {k : Nat} (h : k < w.thr.length) : thRight (thrAt w k) = true := (hw.thr _ (by rw [thrAt_at h]; exact at_mem h)).1
theorem thr_few {w : Wd} (hw : WdR w) : w.thr.length ≤ 8 := by have := hw.len; have := hw.tso.sz; omega
theorem do_of {w : Wd} {k : Nat} {i : Ins} {w1 : Wd} {t1 : Thr} (hi : instrAt w (thrAt w k) = i) (hd : doN w k (thrAt w k) i = (w1, t1, 0)) : doW w k = setT w1 k t1 := by
 unfold doW doOp
 rw [hi, hd]; rfl
theorem lo_go {w : Wd} (hw : WdR w) {k : Nat} (hk : k < w.thr.length) {i : Ins} (h0 : (thrAt w k).state = 0) (hl : (thrAt w k).left = []) (hp : (thrAt w k).pc ≠ 1000) (hop : inn i.op 1 15 = true) (hm : loMay i = true) :
  loApply k i (thrAt w k) = cond (decide (i.op = 13)) (frCall (thrAt w k) i.a) (cond (decide (i.op = 14)) (frBack (thrAt w k)) (loDo k i (pc1 (thrAt w k)), 0)) := by
 have hr := thr_mem hw hk
 have hf := thr_few hw
 have hrd : loReady (thrAt w k) k = 0 := by
  unfold loReady
  rw [hr, inn_iff.2 (show (0 : Int) ≤ (k : Int) ∧ (k : Int) ≤ 7 by omega), decide_eq_true h0, hl]; rfl
 unfold loApply
 rw [hrd, hop, hm, decide_eq_false hp]; rfl
theorem do_lo {w : Wd} (hw : WdR w) {k : Nat} (hk : k < w.thr.length) {i : Ins} (hi : instrAt w (thrAt w k) = i) (h0 : (thrAt w k).state = 0) (hl : (thrAt w k).left = []) (hp : (thrAt w k).pc ≠ 1000) (hop : inn i.op 1 15 = true) (hm : loMay i = true)
  (hn : doN w k (thrAt w k) i = (w, (loApply k i (thrAt w k)).1, (loApply k i (thrAt w k)).2)) (h13 : i.op ≠ 13) (h14 : i.op ≠ 14) : doW w k = setT w k (loDo k i (pc1 (thrAt w k))) := by
 refine do_of hi ?_
 rw [hn, lo_go hw hk h0 hl hp hop hm, decide_eq_false h13, decide_eq_false h14]; rfl
theorem do_call {w : Wd} (hw : WdR w) {k : Nat} (hk : k < w.thr.length) {i : Ins} (hi : instrAt w (thrAt w k) = i) (h0 : (thrAt w k).state = 0) (hl : (thrAt w k).left = []) (hp : (thrAt w k).pc ≠ 1000) (hop : i.op = 13) (hm : loMay i = true)
  (hn : doN w k (thrAt w k) i = (w, (loApply k i (thrAt w k)).1, (loApply k i (thrAt w k)).2)) (ha : 0 ≤ i.a ∧ i.a ≤ 1000) (hf : (thrAt w k).frames.length < 6) :
  doW w k = setT w k { thrAt w k with frames := (thrAt w k).frames ++ [⟨(thrAt w k).pc + 1, [g0 (thrAt w k).regs 4, g0 (thrAt w k).regs 5, g0 (thrAt w k).regs 6, g0 (thrAt w k).regs 7]⟩], pc := i.a } := by
 refine do_of hi ?_
 rw [hn, lo_go hw hk h0 hl hp (by rw [hop]; rfl) hm, decide_eq_true hop]
 have : frCall (thrAt w k) i.a = ({ thrAt w k with frames := (thrAt w k).frames ++ [⟨(thrAt w k).pc + 1, [g0 (thrAt w k).regs 4, g0 (thrAt w k).regs 5, g0 (thrAt w k).regs 6, g0 (thrAt w k).regs 7]⟩], pc := i.a }, 0) := by
  unfold frCall
  rw [thr_mem hw hk, decide_eq_false hp, inn_iff.2 ha, decide_eq_false (show ¬ (thrAt w k).frames.length = 6 by omega)]; rfl
 rw [this]; rfl
theorem do_ret {w : Wd} (hw : WdR w) {k : Nat} (hk : k < w.thr.length) {i : Ins} (hi : instrAt w (thrAt w k) = i) (h0 : (thrAt w k).state = 0) (hl : (thrAt w k).left = []) (hp : (thrAt w k).pc ≠ 1000) (hop : i.op = 14) (hm : loMay i = true)
  (hn : doN w k (thrAt w k) i = (w, (loApply k i (thrAt w k)).1, (loApply k i (thrAt w k)).2)) {fs : List Frm} {f : Frm} (hf : (thrAt w k).frames = fs ++ [f]) :
  doW w k = setT w k { thrAt w k with frames := fs, pc := f.back, regs := [g0 (thrAt w k).regs 0, g0 (thrAt w k).regs 1, g0 (thrAt w k).regs 2, g0 (thrAt w k).regs 3, g0 f.kept 0, g0 f.kept 1, g0 f.kept 2, g0 f.kept 3] } := by
 refine do_of hi ?_
 rw [hn, lo_go hw hk h0 hl hp (by rw [hop]; rfl) hm, decide_eq_false (by rw [hop]; decide), decide_eq_true hop]
 have : frBack (thrAt w k) = ({ thrAt w k with frames := fs, pc := f.back, regs := [g0 (thrAt w k).regs 0, g0 (thrAt w k).regs 1, g0 (thrAt w k).regs 2, g0 (thrAt w k).regs 3, g0 f.kept 0, g0 f.kept 1, g0 f.kept 2, g0 f.kept 3] }, 0) := by
  unfold frBack
  rw [thr_mem hw hk, hf, List.getLast?_concat, List.dropLast_concat]; rfl
 rw [this]; rfl
theorem g0_setR (t : Thr) {k j : Nat} (v : Int) (hj : j < 8) : g0 (setR t (k : Int) v).regs j = if j = k then v else g0 t.regs j := by
 have h : ∀ f : Nat → Int, g0 (regs8 f) j = f j := fun f => by
  have : j = 0 ∨ j = 1 ∨ j = 2 ∨ j = 3 ∨ j = 4 ∨ j = 5 ∨ j = 6 ∨ j = 7 := by omega
  rcases this with rfl | rfl | rfl | rfl | rfl | rfl | rfl | rfl <;> rfl
 unfold setR
 show g0 (regs8 fun i => cond (decide (i = ((k : Nat) : Int).toNat)) v (g0 t.regs i)) j = _
 rw [h, Int.toNat_natCast]
 by_cases e : j = k
 ·rw [decide_eq_true e, if_pos e]; rfl
 ·rw [decide_eq_false e, if_neg e]; rfl
theorem wan_id {w : Wd} (k : Nat) (h : ∀ t ∈ w.thr, t.left = []) : wanW w k = w := by
 unfold wanW
 have : w.thr.map (waned k) = w.thr := by
  conv => rhs; rw [← List.map_id w.thr]
  refine List.map_congr_left fun t ht => ?_
  unfold waned
  rw [h t ht]; rfl
 rw [this]
end Go.AL
end
section
set_option maxRecDepth 100000
namespace Go.AL
open Go Go.Proofs
attribute [local irreducible] J
def thrP (a : Int) : Thr := { thr0 with pc := a }
def newOk (code : List Ins) (st : List Int) (m : Mem) (d : Int) : Wd := ⟨code, ⟨m, d, List.replicate st.length []⟩, st.map thrP, []⟩
def newW (code : List Ins) (st : List Int) (m : Mem) (d : Int) : Wd × Int :=
 cond (rightC code && mRight m) (cond (inn st.length 1 8 && inn d 0 8) (cond (st.all fun a => inn a 0 code.length) (newOk code st m d, 0) (wd0, 3)) (wd0, 2)) (wd0, 1)
theorem thr_weak (a : Int) (c : Ctx) (u : Value) (h : Rel c (.agg [iv a, iv 0, iv 0, iv 0, iv 0, iv 0, iv 0, iv 0, iv 0, .slf [], iv 0, iv 0, .slf []]) u) : Rel c (encThr (thrP a)) u := by
 obtain ⟨cs, e, h⟩ := h
 refine ⟨cs, e, ?_⟩
 revert h
 have key : ∀ us, RelL c [iv a, iv 0, iv 0, iv 0, iv 0, iv 0, iv 0, iv 0, iv 0, .slf [], iv 0, iv 0, .slf []] us → RelL c [iv a, iv 0, iv 0, iv 0, iv 0, iv 0, iv 0, iv 0, iv 0, .sl [], iv 0, iv 0, .slz []] us := by
  iterate 9 refine relL_cons (fun u h => h) ?_
  refine relL_cons (fun u h => sl_weak h) ?_
  iterate 2 refine relL_cons (fun u h => h) ?_
  exact relL_cons (fun u h => slf_slz h) (fun us h => h)
 exact key _
theorem elemsP (l : List Int) : ∀ x : Int, (encThr (thrP x)).cells.length = 13 ∧ (encThr (thrP x)).flat = true := fun x => ⟨rfl, rfl⟩
theorem wnew_ok (code : List Ins) (st : List Int) (m : Mem) (d : Int) (hc : code.length ≤ 1000000) (hs : st.length ≤ 1000000) (hm : m.words.length ≤ 1000000 ∧ m.tags.length ≤ 1000000) :
  ACalls Tryz.prog 85 [encIs code, ivs st, encMem m, iv d] [] (one (.tup [encWd (newW code st m d).1, iv (newW code st m d).2]) []) := by
 have h1 := right_ok code hc
 have h2 := mem_right m hm.1 hm.2
 have h3 := tnew_ok m (st.length : Int) d hm
 unfold newW
 cases b1 : rightC code with
 | false =>
  rw [b1] at h1
  unfold encIs at h1
  unfold encWd wCells encIs ivs encMem mCells at *
  refine jcalls Tryz.func85 rfl (by kernel_rfl) Tryz.ntmps85 rfl rfl (fun w0 β0 ext hβ => ?_)
  repeat (first | refine jS ?_ | refine jD ?_ | refine jB ?_ | refine jV h1 ?_)
  exact jR
 | true =>
  rw [b1] at h1
  cases b2 : mRight m with
  | false =>
   rw [b2] at h2
   unfold encIs at h1
   unfold encWd wCells encIs ivs encMem mCells at *
   unfold ivs at *
   refine jcalls Tryz.func85 rfl (by kernel_rfl) Tryz.ntmps85 rfl rfl (fun w0 β0 ext hβ => ?_)
   repeat (first | refine jS ?_ | refine jD ?_ | refine jB ?_ | refine jV h1 ?_ | refine jV h2 ?_)
   exact jR
  | true =>
   rw [b2] at h2 h3
   have hlm : ((st.map iv).length : Int) = (st.length : Int) := by rw [List.length_map]
   cases b3 : (inn (st.length : Int) 1 8 && inn d 0 8) with
   | false =>
    rw [b3] at h3
    unfold encIs at h1
    unfold encTso tCells at h3
    unfold encWd wCells encIs encMem mCells at *
    unfold ivs at *
    refine jcalls Tryz.func85 rfl (by kernel_rfl) Tryz.ntmps85 rfl rfl (fun w0 β0 ext hβ => ?_)
    repeat (first | refine jS ?_ | refine jD ?_ | refine jB ?_ | refine jV h1 ?_ | refine jV h2 ?_)
    rw [hlm]
    repeat (first | refine jS ?_ | refine jD ?_ | refine jB ?_ | refine jV h3 ?_)
    exact jR
   | true =>
    rw [b3] at h3
    simp only [Bool.and_true, cond_true, Int.toNat_natCast] at h3 ⊢
    have b3' := (Bool.and_eq_true _ _ ▸ b3)
    have hs8 := inn_iff.1 b3'.1
    obtain ⟨hz1, hz2⟩ := allAt (l := st) (p := fun a => inn a 0 (code.length : Int))
    unfold encIs at h1
    unfold encTso tCells at h3
    unfold encWd wCells encIs encMem mCells at *
    unfold ivs at *
    refine jcalls Tryz.func85 rfl (by kernel_rfl) Tryz.ntmps85 rfl rfl (fun w0 β0 ext hβ => ?_)
    repeat (first | refine jS ?_ | refine jD ?_ | refine jB ?_ | refine jV h1 ?_ | refine jV h2 ?_)
    rw [hlm]
    repeat (first | refine jS ?_ | refine jD ?_ | refine jB ?_ | refine jV h3 ?_)
    refine jadB 3 5 43 13 rfl rfl rfl rfl ?_
    refine jloopI (fun q : Nat => q ≤ st.length ∧ ∀ p, p < q → inn (at' st (p : Int)) 0 (code.length : Int) = true) [0, 8, 9, 12, 39, 40, 41] (fun q => [.sl (code.map encIns), .ptr 1 0, iv 0, .ptr 3 0, .sl (st.map iv), .v (.int .i64 ((st.map iv).length : Int)), .v (.int .i64 (q : Int))])
     (fun q => [.box 26 [.sl (m.words.map iv), .sl (m.tags.map iv)], .box 33 [.slf [], .slf [], .slf [], iv 0, .slf [], .slf [], .slf []], .box 29 [.sl (m.words.map iv), .sl (m.tags.map iv), iv d, .sl ((List.replicate st.length ([] : List Wput)).map encBuf)],
      .box 33 [.sl (code.map encIns), .sl (m.words.map iv), .sl (m.tags.map iv), iv d, .sl ((List.replicate st.length ([] : List Wput)).map encBuf), .arr 4 (q + 1), .slf []], .arr (q + 1) 43 13 ((st.take q).map fun a => encThr (thrP a))]) (fun q => st.length - q) 0 ⟨Nat.zero_le _, fun p hp => absurd hp (Nat.not_lt_zero _)⟩ rfl rfl (fun q hq => ?_)
    obtain ⟨hq, hok⟩ := hq
    repeat (first | refine jS ?_ | refine jD ?_ | refine jB ?_)
    refine jc rfl rfl rfl (fun h => ?_) (fun h => ?_)
    ·have h := of_decide_eq_true h
     rw [List.length_map] at h
     have hq2 : q < st.length := by omega
     have hidx : IntKind.i64.wrap ((q : Int) + 1) = ((q + 1 : Nat) : Int) := idx_next hq2 (by omega)
     have htk : (st.take q) ++ [at' st (q : Int)] = st.take (q + 1) := by rw [at_nat st q hq2, List.take_add_one, List.getElem?_eq_getElem hq2]; rfl
     have hln : (st.take q).length ≤ 8 := by rw [List.length_take]; omega
     have hno := hz2 q hq2
     have hnx : inn (at' st (q : Int)) 0 (code.length : Int) = true → ∀ p, p < q + 1 → inn (at' st (p : Int)) 0 (code.length : Int) = true := fun hb p hp => by
      by_cases e : p = q
      ·subst e; exact hb
      ·exact hok p (by omega)
     repeat (first | refine jS ?_ | refine jD ?_ | refine jB ?_ | refine jo rfl rfl (index_at rfl rfl rfl rfl rfl rfl rfl rfl (Int.natCast_nonneg q) h) rfl rfl ?_)
     generalize at' st (q : Int) = a at *
     by_cases g1 : a < 0
     ·rw [show decide (a < 0) = true from decide_eq_true g1]
      rw [hno (by cases hi : inn a 0 (code.length : Int) with | false => rfl | true => have := inn_iff.1 hi; omega)]
      repeat (first | refine jS ?_ | refine jD ?_ | refine jB ?_)
      exact jR
     ·rw [show decide (a < 0) = false from decide_eq_false g1]
      repeat (first | refine jS ?_ | refine jD ?_ | refine jB ?_)
      by_cases g2 : a > (code.length : Int)
      ·rw [show decide (a > (((code.map encIns).length : Nat) : Int)) = true from decide_eq_true (by rw [List.length_map]; exact g2)]
       rw [hno (by cases hi : inn a 0 (code.length : Int) with | false => rfl | true => have := inn_iff.1 hi; omega)]
       repeat (first | refine jS ?_ | refine jD ?_ | refine jB ?_)
       exact jR
      ·rw [show decide (a > (((code.map encIns).length : Nat) : Int)) = false from decide_eq_false (by rw [List.length_map]; exact g2)]
       repeat (first | refine jow rfl rfl (readP_dsem rfl) (thr_weak _) rfl rfl ?_ | refine jS ?_ | refine jD ?_ | refine jB ?_)
       refine jo rfl rfl (append_enc (enc := fun a => encThr (thrP a)) (l := st.take q) a rfl rfl rfl rfl rfl rfl rfl rfl rfl rfl (elemsP []) rfl (by omega) rfl rfl) rfl rfl ?_
       rw [htk]
       repeat (first | refine jS ?_ | refine jD ?_ | refine jB ?_)
       refine jnextI (q + 1) ⟨by omega, hnx (inn_iff.2 ⟨by omega, by omega⟩)⟩ ?_ rfl (by omega)
       show some _ = some _
       rw [hidx]
    ·have h := of_decide_eq_false h
     rw [List.length_map] at h
     have : q = st.length := by omega
     subst this
     rw [hz1 fun p hp => hok p (by omega), List.take_length]
     repeat (first | refine jS ?_ | refine jD ?_ | refine jB ?_)
     have he : (st.map thrP).map encThr = st.map fun a => encThr (thrP a) := by rw [List.map_map]; rfl
     unfold newOk
     simp only [cond_true]
     rw [he]
     rcases (by omega : st.length = 1 ∨ st.length = 2 ∨ st.length = 3 ∨ st.length = 4 ∨ st.length = 5 ∨ st.length = 6 ∨ st.length = 7 ∨ st.length = 8) with e | e | e | e | e | e | e | e
     all_goals rw [e]
     all_goals exact jret [] true rfl rfl rfl ⟨rfl, rfl⟩
end Go.AL
end
section
set_option maxRecDepth 100000
namespace Go.AL
open Go Go.Proofs
attribute [local irreducible] J
def stAt (s : Bs) (ls : List Bs) : List Int := ls.map fun l => (whereP s l).1
theorem stAt_take (s : Bs) (ls : List Bs) {q : Nat} (h : q < ls.length) : stAt s (ls.take (q + 1)) = stAt s (ls.take q) ++ [(whereP s (at' ls (q : Int))).1] := by
 unfold stAt
 rw [at_nat ls q h, List.take_add_one, List.getElem?_eq_getElem h, List.map_append]
 rfl
theorem starts_ok (g : Gl) (s : Bs) (ls : List Bs) (hs : s.length ≤ 1000000) (hl : ls.length ≤ 1000) (hall : ∀ l ∈ ls, (whereP s l).2 = 0) :
  ACalls Tryz.prog 83 [sv s, .sl (ls.map sv)] (gls g) (one (.tup [ivs (stAt s ls), .v .nilIface]) (gls g)) := by
 have hw := fun w => where_ok g s w hs
 unfold gls at *
 refine jcalls Tryz.func83 rfl (by kernel_rfl) Tryz.ntmps83 rfl rfl (fun w0 β0 ext hβ => ?_)
 refine jS ?_; refine jS ?_; refine jS ?_
 refine jS ?_; refine jS ?_; refine jS ?_
 refine jS ?_
 refine jS ?_
 repeat (first | refine jad 6 3 1 rfl rfl rfl rfl ?_ | refine jS ?_ | refine jD ?_ | refine jB ?_)
 refine jloopI (ι := Nat) (fun q => q ≤ ls.length) [0, 4, 5, 6, 11, 12, 13] (fun q => [sv s, .slf [], .v .nilIface, .arr 4 (q + 1), .sl (ls.map sv), .v (.int .i64 ((ls.map sv).length : Int)), .v (.int .i64 (q : Int))])
  (fun q => [g.a, g.b, g.c, g.d, .arr (q + 1) 3 1 ((stAt s (ls.take q)).map iv)]) (fun q => ls.length - q) 0 (Nat.zero_le _) rfl rfl (fun q hq => ?_)
 repeat (first | refine jS ?_ | refine jD ?_ | refine jB ?_)
 refine jc rfl rfl rfl (fun h => ?_) (fun h => ?_)
 ·have h := of_decide_eq_true h
  rw [List.length_map] at h
  have hq2 : q < ls.length := by omega
  have hidx : IntKind.i64.wrap ((q : Int) + 1) = ((q + 1 : Nat) : Int) := idx_next hq2 (by omega)
  have htk := stAt_take s ls hq2
  have hw := hw (at' ls (q : Int))
  have h0 := hall _ (at_mem hq2)
  have hln : (stAt s (ls.take q)).length ≤ 1000 := by unfold stAt; rw [List.length_map, List.length_take]; omega
  generalize whereP s (at' ls (q : Int)) = r at *
  obtain ⟨r1, r2⟩ := r
  simp only at h0 htk
  subst h0
  repeat (first | refine jS ?_ | refine jD ?_ | refine jB ?_ | refine jo rfl rfl (index_at rfl rfl rfl rfl rfl rfl rfl rfl (Int.natCast_nonneg q) h) rfl rfl ?_)
  refine jb [0,1,2,3] hw rfl rfl rfl ⟨rfl, rfl, rfl, rfl, rfl, rfl⟩ rfl rfl rfl rfl ?_
  repeat (first | refine jS ?_ | refine jD ?_ | refine jB ?_)
  refine jo rfl rfl (append_enc (enc := iv) (l := stAt s (ls.take q)) r1 rfl rfl rfl rfl rfl rfl rfl rfl rfl rfl (fun x => ⟨rfl, rfl⟩) rfl (by omega) rfl rfl) rfl rfl ?_
  rw [← htk]
  repeat (first | refine jS ?_ | refine jD ?_ | refine jB ?_)
  refine jnextI (q + 1) hq2 ?_ rfl (by omega)
  show some _ = some _
  rw [hidx]
 ·have h := of_decide_eq_false h
  rw [List.length_map] at h
  have : q = ls.length := by omega
  subst this
  rw [List.take_length]
  refine jpub 6 rfl rfl rfl rfl ?_
  repeat (first | refine jS ?_ | refine jD ?_ | refine jB ?_)
  exact jret [] true rfl rfl rfl ⟨rfl, rfl⟩
theorem as_nil (ps : List Value) : ACalls Tryz.prog 84 [.v .nilIface, .ifc 152 (.ptr 0 0)] [.box 150 [sv []]] (one (bv false) [.box 150 [sv []]]) := by
 refine jcalls Tryz.func84 rfl (by kernel_rfl) Tryz.ntmps84 rfl rfl (fun w0 β0 ext hβ => ?_)
 repeat (first | refine jS ?_ | refine jD ?_ | refine jB ?_ | refine jo rfl rfl (eq_nilI rfl rfl rfl) rfl rfl ?_)
 exact jR
theorem snew_ok (g : Gl) (s : Bs) (ls : List Bs) (m : Mem) (d : Int) (hs : s.length ≤ 100000) (hl : ls.length ≤ 1000) (hm : m.words.length ≤ 1000000 ∧ m.tags.length ≤ 1000000) (hp : (parseP s).2.2 = 0) (hall : ∀ l ∈ ls, (whereP s l).2 = 0) (hc : (parseP s).1.length ≤ 1000000) :
  ACalls Tryz.prog 44 [sv s, .sl (ls.map sv), encMem m, iv d] (gls g) (one (.tup [encWd (newW (parseP s).1 (stAt s ls) m d).1, iv (newW (parseP s).1 (stAt s ls) m d).2]) (gls g)) := by
 have h1 := parse_ok g s (by omega)
 have h2 := starts_ok g s ls (by omega) hl hall
 have h3 := as_nil []
 have h4 := wnew_ok (parseP s).1 (stAt s ls) m d hc (by unfold stAt; simp; omega) hm
 rw [hp] at h1
 generalize newW (parseP s).1 (stAt s ls) m d = r at *
 unfold gls encIs at *
 unfold encWd wCells encMem mCells ivs at *
 refine jcalls Tryz.func44 rfl (by kernel_rfl) Tryz.ntmps44 rfl rfl (fun w0 β0 ext hβ => ?_)
 repeat (first | refine jS ?_ | refine jD ?_ | refine jB ?_)
 refine jb [0,1,2,3] h1 rfl rfl rfl ⟨rfl, rfl, rfl, rfl, rfl, rfl⟩ rfl rfl rfl rfl ?_
 repeat (first | refine jS ?_ | refine jD ?_ | refine jB ?_)
 refine jb [0,1,2,3] h2 rfl rfl rfl ⟨rfl, rfl, rfl, rfl, rfl, rfl⟩ rfl rfl rfl rfl ?_
 repeat (first | refine jS ?_ | refine jD ?_ | refine jB ?_)
 refine jb [6] h3 rfl rfl rfl ⟨rfl, rfl, rfl, rfl, rfl, rfl⟩ rfl rfl rfl rfl ?_
 repeat (first | refine jS ?_ | refine jD ?_ | refine jB ?_ | refine jV h4 ?_)
 exact jR
end Go.AL
end
section
set_option maxRecDepth 100000
namespace Go.AL.AsW
open Go Go.Proofs Go.RowKit Go.Extern.Stop Go.Stop Go.Extern
theorem rls (v x : Value) : ReflectliteValue.set #[v, x] = (do
  let (some (dst, a, fl), some (src, b, _)) := (← ReflectliteValue.parts v, ← ReflectliteValue.parts x)
   | unsupported (.noEntry "extern/(internal/reflectlite.Value).Set.zeroValue")
  if fl / ReflectliteValue.flagAddr % 2 == 0 then unsupported (.noEntry "extern/(internal/reflectlite.Value).Set.unaddressable")
  let val ← loadVar src b
  if ← Rtype.directlyAssignable dst src then storeVar dst a val
  else if ← Rtype.implements dst src then
   if (← Rtype.kind src) == 20 then
    match val with
    | .nilIface => unsupported (.noEntry "extern/reflectlite: a nil value of one interface type handed on as a value of another")
    | _ => storeVar dst a val
   else storeVar dst a (.iface src val)
  else panicString ("reflectlite.Set: value of type " ++ (← Rtype.spelt src) ++ " is not assignable to type " ++ (← Rtype.spelt dst))
  pure (.tuple #[])) := rfl
theorem partsTa (a : Addr) (w : World) : (ReflectliteValue.parts (.agg #[.pointer (some ⟨9, 150, none⟩), .pointer (some a), .int .u64 409])).run Tryz.prog w = .ok (some (150, a, 409)) w := by kernel_rfl
theorem partsT (a : Addr) (w : World) : (ReflectliteValue.parts (.agg #[.pointer (some ⟨9, 150, none⟩), .pointer (some a), .int .u64 153])).run Tryz.prog w = .ok (some (150, a, 153)) w := by kernel_rfl
theorem directT (w : World) : (Rtype.directlyAssignable 150 150).run Tryz.prog w = .ok true w := by kernel_rfl
theorem sizeT (w : World) : (sizeOf 150).run Tryz.prog w = .ok 1 w := by kernel_rfl
theorem loadT (b : Addr) (s : ByteArray) (W : World) (hb : W.cell? b = some (.string s)) : (loadVar 150 b).run Tryz.prog W = .ok (.agg #[.string s]) W := by
 simp [loadVar, isAgg, underlying, Tryz.underlying150, Result.andThen, sizeT, loadCells, loadCellsFrom, Addr.add, hb]
theorem storeT (ta : Addr) (s : ByteArray) (old : Value) (W : World) (ht : W.cell? ta = some old) (hf : W.frozen? ta = false) : (storeVar 150 ta (.agg #[.string s])).run Tryz.prog W = .ok () (W.setCell ta (.string s)) := by
 unfold storeVar
 simp [Sem.run_bind, sizeT, Result.andThen, Value.cells, storeCells, Addr.add]
 rw [run_store Tryz.prog W ta _ _ (by rfl)]
 simp [ht, hf]
theorem setT (ta b : Addr) (s : ByteArray) (old : Value) (W : World) (hb : W.cell? b = some (.string s)) (ht : W.cell? ta = some old) (hf : W.frozen? ta = false) :
  (ReflectliteValue.set #[.agg #[.pointer (some ⟨9, 150, none⟩), .pointer (some ta), .int .u64 409], .agg #[.pointer (some ⟨9, 150, none⟩), .pointer (some b), .int .u64 153]]).run Tryz.prog W
   = .ok (.tuple #[]) (W.setCell ta (.string s)) := by
 rw [rls]
 simp only [Sem.run_bind, partsTa, partsT, Result.andThen]
 simp [ReflectliteValue.flagAddr, loadT b s W hb, storeT ta s old W ht hf, Result.andThen, directT]
def w4 (t : Addr) (s : ByteArray) (w : World) : World := (((w.alloc (.cells #[.pointer (some t)] 152)).alloc (.cells #[.pointer (some ⟨9, 152, none⟩), .pointer (some ⟨w.heap.size, 0, none⟩), .int .u64 150] 201)).alloc (.cells #[.pointer (some ⟨9, 152, none⟩), .pointer (some ⟨w.heap.size, 0, none⟩), .int .u64 150] 201)).alloc (.cells #[.string s] 150)
end Go.AL.AsW
end
section
set_option maxRecDepth 100000
namespace Go.AL
open Go Go.Proofs
attribute [local irreducible] J
end Go.AL
end
section
set_option maxRecDepth 100000
namespace Go.AL
open Go Go.Proofs
attribute [local irreducible] J
end Go.AL
end
section
set_option maxRecDepth 100000
namespace Go.AL
open Go Go.Proofs
attribute [local irreducible] J
end Go.AL
end
section
set_option maxRecDepth 100000
namespace Go.AL
open Go Go.Proofs
attribute [local irreducible] J
end Go.AL
end
section
set_option maxRecDepth 100000
namespace Go.AL
open Go Go.Proofs
attribute [local irreducible] J
end Go.AL
end
section
set_option maxRecDepth 100000
namespace Go.AL
open Go Go.Proofs
attribute [local irreducible] J
end Go.AL
end
section
set_option maxRecDepth 100000
namespace Go.AL
open Go Go.Proofs
attribute [local irreducible] J
end Go.AL
end
section
set_option maxRecDepth 100000
namespace Go.AL
open Go Go.Proofs
attribute [local irreducible] J
end Go.AL
end
section
set_option maxRecDepth 100000
namespace Go.AL
open Go Go.Proofs
attribute [local irreducible] J
structure RfR (w : Wd) (k : Nat) : Prop where
 tso : TsR w.tso
 kb : k < w.tso.bufs.length
 kt : k < w.thr.length
 l8 : w.thr.length ≤ 8
 pc : 0 ≤ (thrAt w k).pc ∧ (thrAt w k).pc < 1000
end Go.AL
end
section
set_option maxRecDepth 100000
namespace Go.AL
open Go Go.Proofs
attribute [local irreducible] J
end Go.AL
end
section
set_option maxRecDepth 100000
namespace Go.AL
open Go Go.Proofs
attribute [local irreducible] J
structure InsK (n : Nat) (i : Ins) : Prop where
 op : 0 ≤ i.op ∧ i.op ≤ 26
 ab : i.op = 16 ∨ i.op = 17 ∨ i.op = 19 ∨ i.op = 20 ∨ i.op = 21 ∨ i.op = 23 ∨ i.op = 24 ∨ i.op = 25 → rgs i.a ∧ rgs i.b
 c : i.op = 19 → rgs i.c
 lo : inn i.op 1 15 = true → loMay i = true
 call : i.op = 13 → 0 ≤ i.a ∧ i.a ≤ n
end Go.AL
end
section
set_option maxRecDepth 100000
namespace Go.AL
open Go Go.Proofs
attribute [local irreducible] J
end Go.AL
end
section
set_option maxRecDepth 100000
namespace Go.AL
open Go Go.Proofs
attribute [local irreducible] J
end Go.AL
end
section
set_option maxRecDepth 100000
namespace Go.AL
open Go Go.Proofs
attribute [local irreducible] J
end Go.AL
end
section
set_option maxRecDepth 100000
namespace Go.AL
open Go Go.Proofs
attribute [local irreducible] J
end Go.AL
end
section
set_option maxRecDepth 100000
namespace Go.AL
open Go Go.Proofs
attribute [local irreducible] J
structure WdS (w : Wd) : Prop where
 sz : WdSz w
 evs : w.evs.length ≤ 1000000
end Go.AL
end
section
set_option maxRecDepth 100000
namespace Go.AL
open Go Go.Proofs
attribute [local irreducible] J
end Go.AL
namespace Go.AL
open Go Go.Proofs
attribute [local irreducible] J
end Go.AL
end
section
set_option maxRecDepth 100000
namespace Go.AL
open Go Go.Proofs
attribute [local irreducible] J
end Go.AL
end
section
set_option maxRecDepth 100000
namespace Go.AL
open Go Go.Proofs
attribute [local irreducible] J
structure RrI (w : Wd) (m : Nat) (s : Nat × Wd) : Prop where
 le : s.1 ≤ m
 right : WdR s.2
 thr : s.2.thr.length = w.thr.length
 evs : s.2.evs.length ≤ w.evs.length + 16 * s.1
 eq : roundsW w m = ((roundsW s.2 (m - s.1)).1, s.1 + (roundsW s.2 (m - s.1)).2)
end Go.AL
end
section
set_option maxRecDepth 100000
namespace Go.AL
open Go Go.Proofs
attribute [local irreducible] J
theorem newOk_right {code : List Ins} {st : List Int} {m : Mem} {d : Int} (hc : rightC code = true) (hm : mRight m = true) (h1 : 1 ≤ st.length) (h8 : st.length ≤ 8) (hd : 0 ≤ d ∧ d ≤ 8) (hs : ∀ a ∈ st, 0 ≤ a ∧ a ≤ code.length) : WdR (newOk code st m d) := by
 have hl : code.length ≤ 1000 := by
  unfold rightC at hc
  rw [Bool.and_eq_true] at hc
  exact of_decide_eq_true hc.1
 refine ⟨hc, ⟨hm, ⟨⟨by simp [newOk]; omega, by simp [newOk]; omega⟩, hd⟩, fun b hb => ?_⟩, by simp [newOk], fun t ht => ?_⟩
 ·have hb : b ∈ List.replicate st.length ([] : List Wput) := hb
  rw [List.eq_of_mem_replicate hb]
  exact ⟨hd.1, fun p hp => absurd hp List.not_mem_nil⟩
 ·have ht : t ∈ st.map thrP := ht
  obtain ⟨a, ha, rfl⟩ := List.mem_map.1 ht
  have := hs a ha
  exact ⟨thRight_iff.2 ⟨by show 0 ≤ a ∧ a ≤ 1000; omega, Nat.zero_le _, Nat.zero_le _, fun f hf => absurd hf List.not_mem_nil, fun f hf => absurd hf List.not_mem_nil, .inl ⟨.inl rfl, rfl⟩⟩, .inl rfl⟩
def cl (L : Nat) (s : Int) : Int := (IntKind.i64.wrap (IntKind.i64.wrap (s.tmod (IntKind.i64.wrap ((L : Int) + 1)) + L) + 1)).tmod (IntKind.i64.wrap ((L : Int) + 1))
theorem tmod_bd (k : Int) {n : Int} (hn : 0 < n) : -n < k.tmod n ∧ k.tmod n < n := by
 have := Int.natAbs_tmod k n
 have h2 : (k.natAbs % n.natAbs) < n.natAbs := Nat.mod_lt _ (by omega)
 omega
theorem tmod_nn {k n : Int} (hk : 0 ≤ k) : 0 ≤ k.tmod n := Int.tmod_nonneg n hk
def nine (d : Int) : Int := (IntKind.i64.wrap (d.tmod 9 + 9)).tmod 9
theorem nine_bd (d : Int) : 0 ≤ nine d ∧ nine d ≤ 8 := by
 unfold nine
 have h1 := tmod_bd d (n := 9) (by omega)
 rw [wrap_id (by omega : -9223372036854775808 ≤ d.tmod 9 + 9) (by omega)]
 have h2 := tmod_bd (d.tmod 9 + 9) (n := 9) (by omega)
 have h3 := tmod_nn (k := d.tmod 9 + 9) (n := 9) (by omega)
 omega
end Go.AL
end
section
set_option maxRecDepth 100000
namespace Go.AL
open Go Go.Proofs
theorem ACalls.argw {P : Program} {f : FuncId} {args args' : List AVal} {H : List AObj} {Q : Eff} (h : ACalls P f args H Q) (hr : ∀ (c : Ctx) us, RelL c args' us → RelL c args us) : ACalls P f args' H Q :=
 ⟨h.enters, fun ext w β us hI hx h0 => h.calls ext w β us hI hx (hr _ _ h0)⟩
attribute [local irreducible] J
theorem runW_sz {w : Wd} (h : WdR w) (he : w.evs.length ≤ 1000) (l : List Act) (hl : l.length ≤ 1000) : WdR (runW w l).1 ∧ (runW w l).1.evs.length ≤ 2000 ∧ (runW w l).2 ≤ 1000 := by
 obtain ⟨a, b, c⟩ := runW_right h l 0
 exact ⟨a, by unfold runW; omega, by unfold runW; omega⟩
end Go.AL
end
section
set_option maxRecDepth 100000
namespace Go.AL
open Go Go.Proofs
attribute [local irreducible] J
def rst (s : Bs) (ls : List Bs) : List Int := ls.map fun l => (rwhere s l).1
end Go.AL
end
section
set_option maxRecDepth 100000
namespace Go.AL
open Go Go.Proofs
attribute [local irreducible] J
theorem rst_eq {s : Bs} (h : (rparse s).2.2 = 0) (ls : List Bs) : stAt s ls = rst s ls ∧ ((∀ l ∈ ls, (whereP s l).2 = 0) ↔ ∀ l ∈ ls, (rwhere s l).2 = 0) := by
 have e : ∀ l, whereP s l = rwhere s l := fun l => by rw [where_eq, h]; rfl
 unfold stAt rst
 simp only [e]
 exact ⟨trivial, trivial⟩
theorem newW_good {s : Bs} (h : (rparse s).2.2 = 0) (ls : List Bs) (m : Mem) (d : Int) (hm : mRight m = true) (hz : inn ls.length 1 8 = true) (hd : inn d 0 8 = true) : newW (rparse s).1 (rst s ls) m d = (newOk (rparse s).1 (rst s ls) m d, 0) := by
 unfold newW
 have hl : (rst s ls).length = ls.length := by unfold rst; rw [List.length_map]
 rw [parse_right h, hm, hl, hz, hd]
 have : ((rst s ls).all fun a => inn a 0 (rparse s).1.length) = true := List.all_eq_true.2 fun a ha => by
  unfold rst at ha
  obtain ⟨l, _, rfl⟩ := List.mem_map.1 ha
  exact inn_iff.2 (where_right h)
 rw [this]; rfl
theorem newOk_r {s : Bs} (h : (rparse s).2.2 = 0) (ls : List Bs) (m : Mem) (d : Int) (hm : mRight m = true) (hz : inn ls.length 1 8 = true) (hd : inn d 0 8 = true) : WdR (newOk (rparse s).1 (rst s ls) m d) := by
 have hl : (rst s ls).length = ls.length := by unfold rst; rw [List.length_map]
 obtain ⟨z1, z2⟩ := inn_iff.1 hz
 refine newOk_right (parse_right h) hm (by omega) (by omega) (inn_iff.1 hd) fun a ha => ?_
 unfold rst at ha
 obtain ⟨l, _, rfl⟩ := List.mem_map.1 ha
 exact where_right h
end Go.AL
end
section
set_option maxRecDepth 100000
namespace Go.AL
open Go Go.Proofs
def lockI : List Ins := [⟨1, 1, 0, 0⟩, ⟨1, 2, 1, 0⟩, ⟨19, 1, 0, 2⟩, ⟨11, 1, 6, 0⟩, ⟨23, 1, 0, 0⟩, ⟨10, 0, 0, 0⟩, ⟨14, 0, 0, 0⟩, ⟨1, 1, 0, 0⟩, ⟨20, 1, 0, 0⟩, ⟨14, 0, 0, 0⟩]
def turnI : List Ins := [⟨1, 0, 1, 0⟩, ⟨13, 0, 0, 0⟩, ⟨26, 2, 0, 0⟩, ⟨1, 4, 2, 0⟩, ⟨16, 5, 4, 0⟩, ⟨3, 5, 5, 1⟩, ⟨17, 5, 4, 0⟩, ⟨26, 3, 0, 0⟩, ⟨1, 0, 1, 0⟩, ⟨13, 7, 0, 0⟩]
def thrI (n : Int) : List Ins := (List.replicate n.toNat turnI).flatten ++ [⟨0, 0, 0, 0⟩]
theorem lockI_eq : (blk spTg spC).filterMap (·.2) = lockI := by kernel_rfl
theorem turnI_eq : (blk spTg turnC).filterMap (·.2) = turnI := by kernel_rfl
theorem haltI_eq : (blk spTg kH).filterMap (·.2) = [⟨0, 0, 0, 0⟩] := by kernel_rfl
theorem thrIt_code (i : Nat) (n : Int) : (thrIt i n).filterMap (·.2) = thrI n := by
 unfold thrIt thrI
 rw [List.filterMap_cons_none rfl, List.filterMap_append, haltI_eq]
 congr 1
 generalize n.toNat = m
 induction m with
 | zero => rfl
 | succ m ih => rw [List.replicate_succ, List.flatten_cons, List.filterMap_append, ih, turnI_eq, List.replicate_succ, List.flatten_cons]
theorem spCode_eq (ts : List Int) : spCode ts = lockI ++ (ts.map thrI).flatten := by
 unfold spCode spIt
 rw [List.filterMap_append, lockI_eq]
 congr 1
 generalize 0 = k
 induction ts generalizing k with
 | nil => rfl
 | cons x xs ih => rw [List.zipIdx_cons, List.flatMap_cons, List.filterMap_append, thrIt_code, ih, List.map_cons, List.flatten_cons]
theorem thrI_len (n : Int) : (thrI n).length = 10 * n.toNat + 1 := by
 unfold thrI
 rw [List.length_append, List.length_flatten, List.map_replicate, List.sum_replicate_nat, show turnI.length = 10 from rfl]
 simp; omega
theorem thrLn_cnt (i : Nat) (n : Int) : ((thrLn i n).filter fun l => !rlab l).length = (thrI n).length := by
 rw [thrI_len]
 unfold thrLn
 rw [List.filter_cons_of_neg (by rw [show rlab (tlab i) = true from rlab_end _]; decide), List.filter_append, List.length_append]
 rw [show (kH.filter fun l => !rlab l).length = 1 by decide +kernel]
 congr 1
 generalize n.toNat = m
 induction m with
 | zero => rfl
 | succ m ih => rw [List.replicate_succ, List.flatten_cons, List.filter_append, List.length_append, ih, show (turnC.filter fun l => !rlab l).length = 10 by decide +kernel]; omega
theorem spAt_eq (ts : List Int) (i : Nat) : spAt ts i = (lockI ++ ((ts.take i).map thrI).flatten).length := by
 unfold spAt
 rw [List.filter_append, List.length_append, List.length_append, show (spC.filter fun l => !rlab l).length = lockI.length by decide +kernel]
 congr 1
 unfold spThr
 generalize ts.take i = xs
 generalize 0 = k
 induction xs generalizing k with
 | nil => rfl
 | cons x xs ih => rw [List.zipIdx_cons, List.flatMap_cons, List.filter_append, List.length_append, thrLn_cnt, ih, List.map_cons, List.flatten_cons, List.length_append]
theorem code_thr (ts : List Int) {i x : Nat} (h : i < ts.length) (hx : x < (thrI ts[i]).length) : (spCode ts)[spAt ts i + x]? = (thrI ts[i])[x]? := by
 rw [spCode_eq, spAt_eq]
 have e : (ts.map thrI).flatten = ((ts.take i).map thrI).flatten ++ (thrI ts[i] ++ ((ts.drop (i + 1)).map thrI).flatten) := by
  conv => lhs; rw [← List.take_append_drop i ts, List.drop_eq_getElem_cons h]
  rw [List.map_append, List.flatten_append, List.map_cons, List.flatten_cons]
 rw [e, ← List.append_assoc, List.getElem?_append_right (by omega), Nat.add_sub_cancel_left, List.getElem?_append_left hx]
theorem code_lock (ts : List Int) {x : Nat} (hx : x < 10) : (spCode ts)[x]? = lockI[x]? := by
 rw [spCode_eq, List.getElem?_append_left (by exact hx)]
theorem rep_at : ∀ (m j o : Nat), j < m → o < 10 → ((List.replicate m turnI).flatten)[10 * j + o]? = turnI[o]?
 | 0, j, o, h, _ => absurd h (by omega)
 | m + 1, 0, o, h, ho => by rw [List.replicate_succ, List.flatten_cons, Nat.mul_zero, Nat.zero_add, List.getElem?_append_left (by exact ho)]
 | m + 1, j + 1, o, h, ho => by
  rw [List.replicate_succ, List.flatten_cons, List.getElem?_append_right (by show 10 ≤ _; omega), show 10 * (j + 1) + o - turnI.length = 10 * j + o by show _ - 10 = _; omega]
  exact rep_at m j o (by omega) ho
theorem code_turn (ts : List Int) {i j o : Nat} (h : i < ts.length) (hj : j < ts[i].toNat) (ho : o < 10) : (spCode ts)[spAt ts i + 10 * j + o]? = turnI[o]? := by
 rw [Nat.add_assoc, code_thr ts h (by rw [thrI_len]; omega)]
 unfold thrI
 rw [List.getElem?_append_left (by rw [List.length_flatten, List.map_replicate, List.sum_replicate_nat]; show _ < _ * 10; omega), rep_at _ _ _ hj ho]
theorem code_halt (ts : List Int) {i : Nat} (h : i < ts.length) : (spCode ts)[spAt ts i + 10 * ts[i].toNat]? = some ⟨0, 0, 0, 0⟩ := by
 rw [code_thr ts h (by rw [thrI_len]; omega)]
 unfold thrI
 have hl : ((List.replicate ts[i].toNat turnI).flatten).length = 10 * ts[i].toNat := by rw [List.length_flatten, List.map_replicate, List.sum_replicate_nat]; show _ * 10 = _; omega
 rw [List.getElem?_append_right (by omega), hl, Nat.sub_self]; rfl
theorem instr_of {w : Wd} {t : Thr} {p : Nat} {i : Ins} (hp : t.pc = (p : Int)) (hc : w.code[p]? = some i) : instrAt w t = i := by
 have hlt := (List.getElem?_eq_some_iff.1 hc).1
 unfold instrAt
 rw [hp, decide_eq_true (by omega), show ((p : Int)).toNat = p by omega]
 show w.code.getD p default = i
 rw [List.getD_eq_getElem?_getD, hc]; rfl
end Go.AL
end
section
set_option maxRecDepth 100000
namespace Go.AL
open Go Go.Proofs
def kT (ts : List Int) (i : Nat) : Nat := (ts.getD i 0).toNat
theorem kT_at {ts : List Int} {i : Nat} (h : i < ts.length) : kT ts i = ts[i].toNat := by unfold kT; rw [List.getD_eq_getElem?_getD, List.getElem?_eq_getElem h]; rfl
def pcS (b j : Nat) : Nat → Nat
 | 0 => b + 10 * j + 0 | 1 => b + 10 * j + 1 | 2 => 0 | 3 => 1 | 4 => 2 | 5 => 3 | 6 => 4 | 7 => 5 | 8 => 3 | 9 => 6
 | 10 => b + 10 * j + 2 | 11 => b + 10 * j + 3 | 12 => b + 10 * j + 4 | 13 => b + 10 * j + 5 | 14 => b + 10 * j + 6 | 15 => b + 10 * j + 7 | 16 => b + 10 * j + 8 | 17 => b + 10 * j + 9
 | 18 => 7 | 19 => 8 | _ => 9
def inLk (s : Nat) : Bool := decide (2 ≤ s) && decide (s ≤ 9)
def inUn (s : Nat) : Bool := decide (18 ≤ s) && decide (s ≤ 20)
def frS (b j s : Nat) (fs : List Frm) : Prop := (inLk s = true → ∃ kp, fs = [⟨((b + 10 * j + 2 : Nat) : Int), kp⟩]) ∧ (inUn s = true → ∃ kp, fs = [⟨((b + 10 * j + 10 : Nat) : Int), kp⟩]) ∧ (inLk s = false → inUn s = false → fs = [])
def rgS (s : Nat) (c : Int) (r : List Int) : Prop := match s with
 | 1 => g0 r 0 = 1
 | 2 => g0 r 0 = 1
 | 3 => g0 r 0 = 1 ∧ g0 r 1 = 0
 | 4 => g0 r 0 = 1 ∧ g0 r 1 = 0 ∧ g0 r 2 = 1
 | 5 => g0 r 0 = 1 ∧ g0 r 1 = 1
 | 6 => g0 r 0 = 1 ∧ g0 r 1 = 1
 | 7 => g0 r 0 = 1
 | 8 => g0 r 0 = 1 ∧ g0 r 1 = 0
 | 12 => g0 r 4 = 2
 | 13 => g0 r 4 = 2 ∧ g0 r 5 = c
 | 14 => g0 r 4 = 2 ∧ g0 r 5 = c + 1
 | 17 => g0 r 0 = 1
 | 18 => g0 r 0 = 1
 | 19 => g0 r 0 = 1 ∧ g0 r 1 = 0
 | _ => True
structure At (ts : List Int) (i : Nat) (p : Nat × Nat) (c : Int) (t : Thr) : Prop where
 run : (p.1 < kT ts i ∧ p.2 ≤ 20 ∧ t.state = 0) ∨ (p.1 = kT ts i ∧ p.2 = 0 ∧ t.state = 0) ∨ (p.1 = kT ts i ∧ p.2 = 21 ∧ t.state = 1)
 pc : t.state = 0 → t.pc = ((pcS (spAt ts i) p.1 p.2 : Nat) : Int)
 fr : frS (spAt ts i) p.1 p.2 t.frames
 rg : rgS p.2 c t.regs
 left : t.left = []
 fault : t.fault = 0
theorem At.other {ts : List Int} {i : Nat} {p : Nat × Nat} {c c' : Int} {t : Thr} (h : At ts i p c t) (h1 : p.2 ≠ 13) (h2 : p.2 ≠ 14) : At ts i p c' t := by
 refine ⟨h.run, h.pc, h.fr, ?_, h.left, h.fault⟩
 have := h.rg
 unfold rgS at this ⊢
 split <;> simp_all
def hol (s : Nat) : Bool := decide (8 ≤ s) && decide (s ≤ 19)
def ins1 (s : Nat) : Bool := decide (11 ≤ s) && decide (s ≤ 15)
def insN (p : Nat × Nat) : Nat := p.1 + (cond (decide (11 ≤ p.2) && decide (p.2 ≤ 20)) 1 0)
def outN (p : Nat × Nat) : Nat := p.1 + (cond (decide (16 ≤ p.2) && decide (p.2 ≤ 20)) 1 0)
def up (ls : Nat → Nat × Nat) (k : Nat) (p : Nat × Nat) : Nat → Nat × Nat := fun q => if q = k then p else ls q
theorem up_at (ls : Nat → Nat × Nat) (k : Nat) (p : Nat × Nat) : up ls k p k = p := if_pos rfl
theorem up_ne (ls : Nat → Nat × Nat) {k q : Nat} (p : Nat × Nat) (h : q ≠ k) : up ls k p q = ls q := if_neg h
structure Sc where
 inside : Int
 ins : List Int
 outs : List Int
def inc (l : List Int) (k : Nat) : List Int := l.set k (g0 l k + 1)
def scStep (n : Nat) (s : Sc) (e : Evt) : Option Sc :=
 cond (decide (e.who < 0) || decide (e.who ≥ n)) none
  (cond (decide (e.kind = 2)) (cond (decide (s.inside ≥ 0)) none (some ⟨e.who, inc s.ins e.who.toNat, s.outs⟩))
   (cond (decide (e.kind = 3)) (cond (decide (s.inside = e.who)) (some ⟨-1, s.ins, inc s.outs e.who.toNat⟩) none) none))
def scE (n : Nat) (l : List Evt) : Option Sc := l.foldl (fun o e => o.bind fun s => scStep n s e) (some ⟨-1, List.replicate n 0, List.replicate n 0⟩)
theorem scE_snoc (n : Nat) (l : List Evt) (e : Evt) : scE n (l ++ [e]) = (scE n l).bind fun s => scStep n s e := by unfold scE; rw [List.foldl_append]; rfl
def cntE (kd : Int) (l : List Evt) : Nat := (l.filter fun e => decide (e.kind = kd)).length
theorem cntE_snoc (kd : Int) (l : List Evt) (e : Evt) : cntE kd (l ++ [e]) = cntE kd l + cond (decide (e.kind = kd)) 1 0 := by
 unfold cntE
 rw [List.filter_append, List.length_append]
 cases h : decide (e.kind = kd) <;> simp [List.filter, h]
def tally (n : Nat) (f : Nat → Nat) : List Int := (List.range n).map fun i => ((f i : Nat) : Int)
theorem tally_at {n : Nat} (f : Nat → Nat) {k : Nat} (h : k < n) : g0 (tally n f) k = (f k : Int) := by
 unfold tally g0
 rw [List.getD_eq_getElem?_getD, List.getElem?_map, List.getElem?_range h]; rfl
theorem tally_inc {n : Nat} {f f' : Nat → Nat} {k : Nat} (h : k < n) (h1 : f' k = f k + 1) (h2 : ∀ q, q ≠ k → f' q = f q) : inc (tally n f) k = tally n f' := by
 unfold inc
 rw [tally_at f h]
 unfold tally
 apply List.ext_getElem?
 intro q
 rw [List.getElem?_set, List.length_map, List.length_range, List.getElem?_map, List.getElem?_map]
 by_cases e : q = k
 ·subst e
  rw [if_pos rfl, if_pos h, List.getElem?_range h]
  simp [h1]
 ·rw [if_neg (fun e2 => e e2.symm)]
  by_cases hq : q < n
  ·rw [List.getElem?_range hq]; simp [h2 q e]
  ·rw [List.getElem?_eq_none (by simpa using hq)]; rfl
theorem tally_same {n : Nat} {f f' : Nat → Nat} (h : ∀ q, q < n → f q = f' q) : tally n f = tally n f' := by
 unfold tally
 exact List.map_congr_left fun q hq => by rw [h q (List.mem_range.1 hq)]
def sumN (n : Nat) (f : Nat → Nat) : Nat := match n with
 | 0 => 0
 | m + 1 => sumN m f + f m
theorem sumN_le {f f' : Nat → Nat} {b : Nat} : ∀ n, (∀ i, i < n → f' i ≤ f i + b) → sumN n f' ≤ sumN n f + b * n
 | 0, _ => Nat.le_refl _
 | n + 1, h => by
  have h1 := sumN_le n fun i hi => h i (by omega)
  have h2 := h n (by omega)
  show sumN n f' + f' n ≤ sumN n f + f n + b * (n + 1)
  rw [Nat.mul_add]; omega
theorem sumN_lt {f f' : Nat → Nat} {b d k : Nat} : ∀ n, k < n → f' k + d < f k → (∀ i, i < n → i ≠ k → f' i ≤ f i + b) → sumN n f' + d < sumN n f + b * n
 | 0, hk, _, _ => absurd hk (by omega)
 | n + 1, hk, h1, h2 => by
  show sumN n f' + f' n + d < sumN n f + f n + b * (n + 1)
  rw [Nat.mul_add]
  by_cases e : k = n
  ·subst e
   have := sumN_le (f := f) (f' := f') (b := b) k fun i hi => h2 i (by omega) (by omega)
   omega
  ·have := sumN_lt n (by omega) h1 fun i hi hne => h2 i (by omega) hne
   have := h2 n (by omega) (fun e2 => e e2.symm)
   omega
def gS : Nat → Nat
 | 0 => 18 | 1 => 17 | 2 => 16 | 3 => 15 | 4 => 14 | 5 => 19 | 6 => 18 | 7 => 17 | 8 => 13 | 9 => 12 | 10 => 11 | 11 => 10 | 12 => 9 | 13 => 8 | 14 => 7 | 15 => 6 | 16 => 5 | 17 => 4 | 18 => 3 | 19 => 2 | 20 => 1 | _ => 0
def spn (s : Nat) : Bool := decide (s ≤ 4) || decide (s = 7)
def sur (s : Nat) (lk : Int) : Nat := cond (spn s && decide (lk = 1)) 6 0
def phi (K : Nat) (p : Nat × Nat) (lk : Int) : Nat := cond (decide (p.1 < K)) (25 * (K - p.1 - 1) + gS p.2 + sur p.2 lk + 1) (cond (decide (p.2 = 0)) 1 0)
def acq (p : Nat × Nat) : Nat := p.1 + cond (decide (8 ≤ p.2) && decide (p.2 ≤ 20)) 1 0
def hI (n K : Nat) (p : Nat × Nat) (lk : Int) (b : Nat) : Nat := 2 * phi K p lk + b + 14 * n * (K - acq p)
def pot (ts : List Int) (w : Wd) (ls : Nat → Nat × Nat) (lk : Int) : Nat := sumN ts.length fun i => hI ts.length (kT ts i) (ls i) lk (bufAt w.tso i).length
theorem pot_lt {ts : List Int} {w : Wd} {ls : Nat → Nat × Nat} {lk : Int} {k : Nat} (hk : k < ts.length) {p : Nat × Nat} (h1 : phi (kT ts k) p lk < phi (kT ts k) (ls k) lk) (h2 : acq p = acq (ls k)) (t : Thr) : pot ts (setT w k t) (up ls k p) lk < pot ts w ls lk := by
 have := sumN_lt (f := fun i => hI ts.length (kT ts i) (ls i) lk (bufAt w.tso i).length) (f' := fun i => hI ts.length (kT ts i) (up ls k p i) lk (bufAt w.tso i).length) (b := 0) (d := 0) ts.length hk (by
  simp only [up_at]
  unfold hI
  rw [h2]; omega) (fun i hi hne => by simp only [up_ne ls p hne]; omega)
 unfold pot
 show sumN _ (fun i => hI ts.length (kT ts i) (up ls k p i) lk (bufAt w.tso i).length) < _
 omega
structure SpI (ts : List Int) (w : Wd) (ls : Nat → Nat × Nat) (c : Nat) (lk : Int) (ind : Int) : Prop where
 code : w.code = spCode ts
 len : w.thr.length = ts.length
 mem : w.tso.mem = ⟨[0, lk, (c : Int)], [0, 1, 1]⟩
 at_ : ∀ i, i < ts.length → At ts i (ls i) c (thrAt w i)
 buf : ∀ i, i < ts.length → bufAt w.tso i = [] ∨ (15 ≤ (ls i).2 ∧ (ls i).2 ≤ 19 ∧ bufAt w.tso i = [⟨2, (c : Int) + 1⟩])
 own : (lk = 0 ∧ cntE 2 w.evs = cntE 3 w.evs ∧ c = cntE 3 w.evs ∧ ∀ i, i < ts.length → hol (ls i).2 = false) ∨
  (lk = 1 ∧ ∃ h, h < ts.length ∧ hol (ls h).2 = true ∧ (∀ i, i < ts.length → i ≠ h → hol (ls i).2 = false) ∧ cntE 2 w.evs = cntE 3 w.evs + cond (ins1 (ls h).2) 1 0 ∧ c + (bufAt w.tso h).length = cntE 3 w.evs + cond (decide ((ls h).2 = 15)) 1 0)
 who : (ind = -1 ∧ ∀ i, i < ts.length → ins1 (ls i).2 = false) ∨ (∃ h : Nat, ind = h ∧ h < ts.length ∧ ins1 (ls h).2 = true)
 sc : scE ts.length w.evs = some ⟨ind, tally ts.length fun i => insN (ls i), tally ts.length fun i => outN (ls i)⟩
theorem ins_hol {s : Nat} (h : ins1 s = true) : hol s = true := by
 unfold ins1 at h; unfold hol
 simp only [Bool.and_eq_true, decide_eq_true_eq] at h ⊢
 omega
theorem spi_loc {ts : List Int} {w : Wd} {ls : Nat → Nat × Nat} {c : Nat} {lk ind : Int} (h : SpI ts w ls c lk ind) {k : Nat} (hk : k < ts.length) {t : Thr} {p : Nat × Nat} (ht : At ts k p c t) (h1 : hol p.2 = hol (ls k).2) (h2 : ins1 p.2 = ins1 (ls k).2)
  (h3 : decide (p.2 = 15) = decide ((ls k).2 = 15)) (h4 : bufAt w.tso k = [] ∨ (15 ≤ p.2 ∧ p.2 ≤ 19)) (h5 : insN p = insN (ls k)) (h6 : outN p = outN (ls k)) : SpI ts (setT w k t) (up ls k p) c lk ind := by
 have hf : ∀ (q : Nat) {α : Type} (f : Nat × Nat → α), f p = f (ls k) → f (up ls k p q) = f (ls q) := fun q α f e => by
  by_cases hq : q = k
  ·subst hq; rw [up_at, e]
  ·rw [up_ne ls p hq]
 have hh := fun q => hf q (fun x => hol x.2) h1
 have hn := fun q => hf q (fun x => ins1 x.2) h2
 have h15 := fun q => hf q (fun x => decide (x.2 = 15)) h3
 refine ⟨h.code, by unfold setT; simp [h.len], h.mem, fun i hi => ?_, fun i hi => ?_, ?_, ?_, ?_⟩
 ·rw [thrAt_set w t (by rw [h.len]; exact hk)]
  by_cases e : i = k
  ·subst e; rw [if_pos rfl, up_at]; exact ht
  ·rw [if_neg e, up_ne ls p e]; exact h.at_ i hi
 ·by_cases e : i = k
  ·subst e
   rw [up_at]
   rcases h.buf i hi with hb | ⟨_, _, hb⟩
   ·exact .inl hb
   ·rcases h4 with h4 | h4
    ·exact .inl h4
    ·exact .inr ⟨h4.1, h4.2, hb⟩
  ·rw [up_ne ls p e]; exact h.buf i hi
 ·rcases h.own with ⟨a, b, d, e⟩ | ⟨a, q, b, d, e, f, g⟩
  ·exact .inl ⟨a, b, d, fun i hi => by rw [hh i]; exact e i hi⟩
  ·exact .inr ⟨a, q, b, by rw [hh q]; exact d, fun i hi hne => by rw [hh i]; exact e i hi hne, by rw [hn q]; exact f, by rw [h15 q]; exact g⟩
 ·rcases h.who with ⟨a, b⟩ | ⟨q, a, b, d⟩
  ·exact .inl ⟨a, fun i hi => by rw [hn i]; exact b i hi⟩
  ·exact .inr ⟨q, a, b, by rw [hn q]; exact d⟩
 ·have e1 : tally ts.length (fun i => insN (up ls k p i)) = tally ts.length fun i => insN (ls i) := tally_same fun q _ => hf q insN h5
  have e2 : tally ts.length (fun i => outN (up ls k p i)) = tally ts.length fun i => outN (ls i) := tally_same fun q _ => hf q outN h6
  rw [e1, e2]
  exact h.sc
end Go.AL
end
section
set_option maxRecDepth 100000
namespace Go.AL
open Go Go.Proofs
def SpX (ts : List Int) (w : Wd) (m : Nat) : Prop := ∃ ls c lk ind, SpI ts w ls c lk ind ∧ pot ts w ls lk < m
theorem ff {b : Bool} {p : Prop} (h : b = false) : b = true → p := fun e => by rw [h] at e; cases e
theorem ft {b : Bool} {p : Prop} (h : b = true) : b = false → p := fun e => by rw [h] at e; cases e
theorem fr_no {b j s : Nat} {fs : List Frm} (h1 : inLk s = false) (h2 : inUn s = false) (h : fs = []) : frS b j s fs := ⟨ff h1, ff h2, fun _ _ => h⟩
theorem fr_lk {b j s : Nat} {fs : List Frm} (h1 : inLk s = true) (h2 : inUn s = false) (h : ∃ kp, fs = [⟨((b + 10 * j + 2 : Nat) : Int), kp⟩]) : frS b j s fs := ⟨fun _ => h, ff h2, ft h1⟩
theorem fr_un {b j s : Nat} {fs : List Frm} (h1 : inLk s = false) (h2 : inUn s = true) (h : ∃ kp, fs = [⟨((b + 10 * j + 10 : Nat) : Int), kp⟩]) : frS b j s fs := ⟨ff h1, fun _ => h, fun _ => ft h2⟩
structure Here (ts : List Int) (w : Wd) (ls : Nat → Nat × Nat) (c : Nat) (k j s : Nat) (i : Ins) : Prop where
 hw : WdR w
 hk : k < w.thr.length
 hls : ls k = (j, s)
 hj : j < kT ts k
 h0 : (thrAt w k).state = 0
 hi : instrAt w (thrAt w k) = i
 hp : (thrAt w k).pc ≠ 1000
 pc : (thrAt w k).pc = ((pcS (spAt ts k) j s : Nat) : Int)
 fr : frS (spAt ts k) j s (thrAt w k).frames
 rg : rgS s c (thrAt w k).regs
 left : (thrAt w k).left = []
 fault : (thrAt w k).fault = 0
theorem here {ts : List Int} {w : Wd} {ls : Nat → Nat × Nat} {c : Nat} {lk ind : Int} (hw : WdR w) (h : SpI ts w ls c lk ind) {k j s : Nat} (hk : k < ts.length) (hls : ls k = (j, s)) (hj : j < kT ts k) (h0 : (thrAt w k).state = 0) {i : Ins} (hi : (spCode ts)[pcS (spAt ts k) j s]? = some i) : Here ts w ls c k j s i := by
 have hA := h.at_ k hk
 have hpc : (thrAt w k).pc = ((pcS (spAt ts k) j s : Nat) : Int) := by have := hA.pc h0; rw [hls] at this; exact this
 have hi' : w.code[pcS (spAt ts k) j s]? = some i := by rw [h.code]; exact hi
 refine ⟨hw, by rw [h.len]; exact hk, hls, hj, h0, instr_of hpc hi', ?_, hpc, by have := hA.fr; rw [hls] at this; exact this, by have := hA.rg; rw [hls] at this; exact this, hA.left, hA.fault⟩
 have := (List.getElem?_eq_some_iff.1 hi').1
 have := hw.cl
 rw [hpc]
 omega
section
variable {ts : List Int} {w : Wd} {ls : Nat → Nat × Nat} {c : Nat} {lk ind : Int} {k j : Nat}
theorem turn_at {o : Nat} {i : Ins} (hk : k < ts.length) (hj : j < kT ts k) (ho : o < 10) (hi : turnI[o]? = some i) : (spCode ts)[spAt ts k + 10 * j + o]? = some i := by
 rw [code_turn ts hk (by rw [← kT_at hk]; exact hj) ho, hi]
theorem lock_at {o : Nat} {i : Ins} (ho : o < 10) (hi : lockI[o]? = some i) : (spCode ts)[o]? = some i := by
 rw [code_lock ts ho, hi]
theorem loc_go {s s' : Nat} {i : Ins} (h : SpI ts w ls c lk ind) (H : Here ts w ls c k j s i) (hop : inn i.op 1 15 = true) (hm : loMay i = true) (hn : doN w k (thrAt w k) i = (w, (loApply k i (thrAt w k)).1, (loApply k i (thrAt w k)).2)) (h13 : i.op ≠ 13) (h14 : i.op ≠ 14)
  (hs : s' ≤ 20) (hp : (loDo k i (pc1 (thrAt w k))).pc = ((pcS (spAt ts k) j s' : Nat) : Int)) (hst : (loDo k i (pc1 (thrAt w k))).state = (thrAt w k).state ∧ (loDo k i (pc1 (thrAt w k))).left = (thrAt w k).left ∧ (loDo k i (pc1 (thrAt w k))).fault = (thrAt w k).fault ∧ (loDo k i (pc1 (thrAt w k))).frames = (thrAt w k).frames)
  (hr : rgS s' c (loDo k i (pc1 (thrAt w k))).regs) (hf1 : inLk s' = inLk s) (hf2 : inUn s' = inUn s) (h1 : hol s' = hol s) (h2 : ins1 s' = ins1 s) (h3 : decide (s' = 15) = decide (s = 15)) (h4 : s < 15 ∨ (15 ≤ s' ∧ s' ≤ 19)) (h5 : insN (j, s') = insN (j, s)) (h6 : outN (j, s') = outN (j, s)) (h7 : decide (gS s' < gS s) = true) (h8 : spn s' = spn s) (h9 : acq (j, s') = acq (j, s)) : SpX ts (doW w k) (pot ts w ls lk) := by
 have hk : k < ts.length := by rw [← h.len]; exact H.hk
 rw [do_lo H.hw H.hk H.hi H.h0 H.left H.hp hop hm hn h13 h14]
 obtain ⟨e1, e2, e3, e4⟩ := hst
 refine ⟨_, _, _, _, spi_loc h hk (p := (j, s')) ⟨.inl ⟨H.hj, hs, e1.trans H.h0⟩, fun _ => hp, ?_, hr, e2.trans H.left, e3.trans H.fault⟩ ?_ ?_ ?_ ?_ ?_ ?_, pot_lt hk ?_ ?_ _⟩
 ·have := H.fr
  unfold frS at this ⊢
  rw [e4]
  show (inLk s' = true → _) ∧ (inUn s' = true → _) ∧ (inLk s' = false → inUn s' = false → _)
  rw [hf1, hf2]; exact this
 ·rw [H.hls]; exact h1
 ·rw [H.hls]; exact h2
 ·rw [H.hls]; exact h3
 ·rcases h4 with h4 | h4
  ·left
   rcases h.buf k hk with hb | ⟨hb, _⟩
   ·exact hb
   ·rw [H.hls] at hb; simp only at hb; omega
  ·exact .inr h4
 ·rw [H.hls]; exact h5
 ·rw [H.hls]; exact h6
 ·have := of_decide_eq_true h7
  rw [H.hls]
  unfold phi sur
  rw [decide_eq_true H.hj]
  show 25 * (kT ts k - j - 1) + gS s' + cond (spn s' && _) 6 0 + 1 < 25 * (kT ts k - j - 1) + gS s + cond (spn s && _) 6 0 + 1
  rw [h8]; omega
 ·rw [H.hls]; exact h9
theorem set_regs (t : Thr) {a : Nat} {v : Int} {q : Nat} (hq : q < 8) : g0 (setR (pc1 t) (a : Int) v).regs q = if q = a then v else g0 t.regs q := g0_setR (pc1 t) v hq
theorem st0 (h : SpI ts w ls c lk ind) (H : Here ts w ls c k j 0 ⟨1, 0, 1, 0⟩) : SpX ts (doW w k) (pot ts w ls lk) :=
 loc_go h H (s' := 1) rfl rfl rfl (by decide) (by decide) (by decide) (by show (thrAt w k).pc + 1 = _; rw [H.pc]; rfl) ⟨rfl, rfl, rfl, rfl⟩ (set_regs (thrAt w k) (a := 0) (q := 0) (by decide)) rfl rfl rfl rfl rfl (.inl (by decide)) rfl rfl rfl rfl rfl
theorem st2 (h : SpI ts w ls c lk ind) (H : Here ts w ls c k j 2 ⟨1, 1, 0, 0⟩) : SpX ts (doW w k) (pot ts w ls lk) :=
 loc_go h H (s' := 3) rfl rfl rfl (by decide) (by decide) (by decide) (by show (thrAt w k).pc + 1 = _; rw [H.pc]; rfl) ⟨rfl, rfl, rfl, rfl⟩ ⟨(set_regs (thrAt w k) (a := 1) (v := 0) (q := 0) (by decide)).trans H.rg, set_regs (thrAt w k) (a := 1) (q := 1) (by decide)⟩ rfl rfl rfl rfl rfl (.inl (by decide)) rfl rfl rfl rfl rfl
theorem st3 (h : SpI ts w ls c lk ind) (H : Here ts w ls c k j 3 ⟨1, 2, 1, 0⟩) : SpX ts (doW w k) (pot ts w ls lk) :=
 loc_go h H (s' := 4) rfl rfl rfl (by decide) (by decide) (by decide) (by show (thrAt w k).pc + 1 = _; rw [H.pc]; rfl) ⟨rfl, rfl, rfl, rfl⟩ ⟨(set_regs (thrAt w k) (a := 2) (v := 1) (q := 0) (by decide)).trans H.rg.1, (set_regs (thrAt w k) (a := 2) (v := 1) (q := 1) (by decide)).trans H.rg.2, set_regs (thrAt w k) (a := 2) (q := 2) (by decide)⟩ rfl rfl rfl rfl rfl (.inl (by decide)) rfl rfl rfl rfl rfl
theorem zero_no {t : Thr} {to : Int} (h : g0 t.regs 1 ≠ 0) (k : Int) : loDo k ⟨11, 1, to, 0⟩ (pc1 t) = pc1 t := by
 show cond (decide (rg (pc1 t) 1 = 0)) _ _ = _
 rw [decide_eq_false (show ¬ rg (pc1 t) 1 = 0 from h)]; rfl
theorem zero_yes {t : Thr} {to : Int} (h : g0 t.regs 1 = 0) (k : Int) : loDo k ⟨11, 1, to, 0⟩ (pc1 t) = { t with pc := to } := by
 show cond (decide (rg (pc1 t) 1 = 0)) _ _ = _
 rw [decide_eq_true (show rg (pc1 t) 1 = 0 from h)]; rfl
theorem st5 (h : SpI ts w ls c lk ind) (H : Here ts w ls c k j 5 ⟨11, 1, 6, 0⟩) : SpX ts (doW w k) (pot ts w ls lk) := by
 have e := zero_no (t := thrAt w k) (to := 6) (by rw [H.rg.2]; decide) (k : Int)
 refine loc_go h H (s' := 6) rfl rfl rfl (by decide) (by decide) (by decide) ?_ ?_ ?_ rfl rfl rfl rfl rfl (.inl (by decide)) rfl rfl rfl rfl rfl
 ·rw [e]; show (thrAt w k).pc + 1 = _; rw [H.pc]; rfl
 ·rw [e]; exact ⟨rfl, rfl, rfl, rfl⟩
 ·rw [e]; exact H.rg
theorem st8 (h : SpI ts w ls c lk ind) (H : Here ts w ls c k j 8 ⟨11, 1, 6, 0⟩) : SpX ts (doW w k) (pot ts w ls lk) := by
 have e := zero_yes (t := thrAt w k) (to := 6) H.rg.2 (k : Int)
 refine loc_go h H (s' := 9) rfl rfl rfl (by decide) (by decide) (by decide) ?_ ?_ ?_ rfl rfl rfl rfl rfl (.inl (by decide)) rfl rfl rfl rfl rfl
 ·rw [e]; rfl
 ·rw [e]; exact ⟨rfl, rfl, rfl, rfl⟩
 ·trivial
theorem st7 (h : SpI ts w ls c lk ind) (H : Here ts w ls c k j 7 ⟨10, 0, 0, 0⟩) : SpX ts (doW w k) (pot ts w ls lk) :=
 loc_go h H (s' := 2) rfl rfl rfl (by decide) (by decide) (by decide) rfl ⟨rfl, rfl, rfl, rfl⟩ H.rg rfl rfl rfl rfl rfl (.inl (by decide)) rfl rfl rfl rfl rfl
theorem st11 (h : SpI ts w ls c lk ind) (H : Here ts w ls c k j 11 ⟨1, 4, 2, 0⟩) : SpX ts (doW w k) (pot ts w ls lk) :=
 loc_go h H (s' := 12) rfl rfl rfl (by decide) (by decide) (by decide) (by show (thrAt w k).pc + 1 = _; rw [H.pc]; rfl) ⟨rfl, rfl, rfl, rfl⟩ (set_regs (thrAt w k) (a := 4) (q := 4) (by decide)) rfl rfl rfl rfl rfl (.inl (by decide)) rfl rfl rfl rfl rfl
theorem st13 (hc : c ≤ 1000000) (h : SpI ts w ls c lk ind) (H : Here ts w ls c k j 13 ⟨3, 5, 5, 1⟩) : SpX ts (doW w k) (pot ts w ls lk) :=
 loc_go h H (s' := 14) rfl rfl rfl (by decide) (by decide) (by decide) (by show (thrAt w k).pc + 1 = _; rw [H.pc]; rfl) ⟨rfl, rfl, rfl, rfl⟩
  ⟨(set_regs (thrAt w k) (a := 5) (q := 4) (by decide)).trans H.rg.1, (set_regs (thrAt w k) (a := 5) (q := 5) (by decide)).trans (by show IntKind.i64.wrap (g0 (thrAt w k).regs 5 + 1) = _; rw [H.rg.2, wrap_id (by omega) (by omega)])⟩ rfl rfl rfl rfl rfl (.inl (by decide)) rfl rfl rfl rfl rfl
theorem st16 (h : SpI ts w ls c lk ind) (H : Here ts w ls c k j 16 ⟨1, 0, 1, 0⟩) : SpX ts (doW w k) (pot ts w ls lk) :=
 loc_go h H (s' := 17) rfl rfl rfl (by decide) (by decide) (by decide) (by show (thrAt w k).pc + 1 = _; rw [H.pc]; rfl) ⟨rfl, rfl, rfl, rfl⟩ (set_regs (thrAt w k) (a := 0) (q := 0) (by decide)) rfl rfl rfl rfl rfl (.inr (by decide)) rfl rfl rfl rfl rfl
theorem st18 (h : SpI ts w ls c lk ind) (H : Here ts w ls c k j 18 ⟨1, 1, 0, 0⟩) : SpX ts (doW w k) (pot ts w ls lk) :=
 loc_go h H (s' := 19) rfl rfl rfl (by decide) (by decide) (by decide) (by show (thrAt w k).pc + 1 = _; rw [H.pc]; rfl) ⟨rfl, rfl, rfl, rfl⟩ ⟨(set_regs (thrAt w k) (a := 1) (v := 0) (q := 0) (by decide)).trans H.rg, set_regs (thrAt w k) (a := 1) (q := 1) (by decide)⟩ rfl rfl rfl rfl rfl (.inr (by decide)) rfl rfl rfl rfl rfl
end
end Go.AL
end
section
set_option maxRecDepth 100000
namespace Go.AL
open Go Go.Proofs
section
variable {ts : List Int} {w : Wd} {ls : Nat → Nat × Nat} {c : Nat} {lk ind : Int} {k j : Nat}
theorem Here.kl {s : Nat} {i : Ins} (H : Here ts w ls c k j s i) (h : SpI ts w ls c lk ind) : k < ts.length := by rw [← h.len]; exact H.hk
theorem mv_go {s : Nat} {i : Ins} (h : SpI ts w ls c lk ind) (H : Here ts w ls c k j s i) {t : Thr} {p : Nat × Nat} (e : doW w k = setT w k t) (hrun : (p.1 < kT ts k ∧ p.2 ≤ 20)  ∨ (p.1 = kT ts k ∧ p.2 = 0)) (hp : t.pc = ((pcS (spAt ts k) p.1 p.2 : Nat) : Int)) (hst : t.state = 0 ∧ t.left = [] ∧ t.fault = 0)
  (hf : frS (spAt ts k) p.1 p.2 t.frames) (hr : rgS p.2 c t.regs) (h1 : hol p.2 = hol s) (h2 : ins1 p.2 = ins1 s) (h3 : decide (p.2 = 15) = decide (s = 15)) (h4 : bufAt w.tso k = [] ∨ (15 ≤ p.2 ∧ p.2 ≤ 19)) (h5 : insN p = insN (j, s)) (h6 : outN p = outN (j, s)) (h7 : phi (kT ts k) p lk < phi (kT ts k) (j, s) lk) (h8 : acq p = acq (j, s)) : SpX ts (doW w k) (pot ts w ls lk) := by
 obtain ⟨e1, e2, e3⟩ := hst
 rw [e]
 refine ⟨_, _, _, _, spi_loc h (H.kl h) (p := p) ⟨?_, fun _ => hp, hf, hr, e2, e3⟩ ?_ ?_ ?_ h4 ?_ ?_, pot_lt (H.kl h) (by rw [H.hls]; exact h7) (by rw [H.hls]; exact h8) _⟩
 ·rcases hrun with ⟨a, b⟩ | ⟨a, b⟩
  ·exact .inl ⟨a, b, e1⟩
  ·exact .inr (.inl ⟨a, b, e1⟩)
 ·rw [H.hls]; exact h1
 ·rw [H.hls]; exact h2
 ·rw [H.hls]; exact h3
 ·rw [H.hls]; exact h5
 ·rw [H.hls]; exact h6
theorem phi_lt {s s' : Nat} (hj : j < kT ts k) (h7 : decide (gS s' < gS s) = true) (h8 : spn s' = spn s) : phi (kT ts k) (j, s') lk < phi (kT ts k) (j, s) lk := by
 have := of_decide_eq_true h7
 unfold phi sur
 rw [decide_eq_true hj]
 show 25 * (kT ts k - j - 1) + gS s' + cond (spn s' && _) 6 0 + 1 < 25 * (kT ts k - j - 1) + gS s + cond (spn s && _) 6 0 + 1
 rw [h8]; omega
theorem noBuf {s : Nat} {i : Ins} (h : SpI ts w ls c lk ind) (H : Here ts w ls c k j s i) (hs : s < 15 ∨ 19 < s) : bufAt w.tso k = [] := by
 rcases h.buf k (H.kl h) with hb | ⟨h1, h2, _⟩
 ·exact hb
 ·rw [H.hls] at h1 h2; simp only at h1 h2; omega
theorem fr0 {s : Nat} {i : Ins} (H : Here ts w ls c k j s i) (h1 : inLk s = false) (h2 : inUn s = false) : (thrAt w k).frames = [] := H.fr.2.2 h1 h2
theorem st1 (h : SpI ts w ls c lk ind) (H : Here ts w ls c k j 1 ⟨13, 0, 0, 0⟩) : SpX ts (doW w k) (pot ts w ls lk) := by
 have hf := fr0 H rfl rfl
 refine mv_go h H (p := (j, 2)) (do_call H.hw H.hk H.hi H.h0 H.left H.hp rfl rfl rfl (by decide) (by rw [hf]; decide)) (.inl ⟨H.hj, of_decide_eq_true rfl⟩) rfl ⟨H.h0, H.left, H.fault⟩ (fr_lk rfl rfl ?_) H.rg rfl rfl rfl (.inl (noBuf h H (by decide))) rfl rfl (phi_lt H.hj rfl rfl) rfl
 rw [hf, H.pc]; exact ⟨_, rfl⟩
theorem st17 (h : SpI ts w ls c lk ind) (H : Here ts w ls c k j 17 ⟨13, 7, 0, 0⟩) : SpX ts (doW w k) (pot ts w ls lk) := by
 have hf := fr0 H rfl rfl
 refine mv_go h H (p := (j, 18)) (do_call H.hw H.hk H.hi H.h0 H.left H.hp rfl rfl rfl (by decide) (by rw [hf]; decide)) (.inl ⟨H.hj, of_decide_eq_true rfl⟩) rfl ⟨H.h0, H.left, H.fault⟩ (fr_un rfl rfl ?_) H.rg rfl rfl rfl (.inr ⟨of_decide_eq_true rfl, of_decide_eq_true rfl⟩) rfl rfl (phi_lt H.hj rfl rfl) rfl
 rw [hf, H.pc]; exact ⟨_, rfl⟩
theorem st9 (h : SpI ts w ls c lk ind) (H : Here ts w ls c k j 9 ⟨14, 0, 0, 0⟩) : SpX ts (doW w k) (pot ts w ls lk) := by
 obtain ⟨kp, hf⟩ := H.fr.1 rfl
 exact mv_go h H (p := (j, 10)) (do_ret H.hw H.hk H.hi H.h0 H.left H.hp rfl rfl rfl (fs := []) hf) (.inl ⟨H.hj, of_decide_eq_true rfl⟩) rfl ⟨H.h0, H.left, H.fault⟩ (fr_no rfl rfl rfl) trivial rfl rfl rfl (.inl (noBuf h H (by decide))) rfl rfl (phi_lt H.hj rfl rfl) rfl
theorem st20 (h : SpI ts w ls c lk ind) (H : Here ts w ls c k j 20 ⟨14, 0, 0, 0⟩) : SpX ts (doW w k) (pot ts w ls lk) := by
 obtain ⟨kp, hf⟩ := H.fr.2.1 rfl
 have hj := H.hj
 refine mv_go h H (p := (j + 1, 0)) (do_ret H.hw H.hk H.hi H.h0 H.left H.hp rfl rfl rfl (fs := []) hf) ?_ ?_ ⟨H.h0, H.left, H.fault⟩ (fr_no rfl rfl rfl) trivial rfl rfl rfl (.inl (noBuf h H (by decide))) rfl rfl ?_ rfl
 ·by_cases e : j + 1 < kT ts k
  ·exact .inl ⟨e, of_decide_eq_true rfl⟩
  ·exact .inr ⟨by show j + 1 = _; omega, rfl⟩
 ·show ((spAt ts k + 10 * j + 10 : Nat) : Int) = ((spAt ts k + 10 * (j + 1) + 0 : Nat) : Int)
  omega
 ·have hs : sur 0 lk ≤ 6 := by unfold sur; cases spn 0 && decide (lk = 1) <;> decide
  have e20 : phi (kT ts k) (j, 20) lk = 25 * (kT ts k - j - 1) + 1 + 0 + 1 := by unfold phi; rw [decide_eq_true hj]; rfl
  rw [e20]
  unfold phi
  by_cases e : j + 1 < kT ts k
  ·rw [decide_eq_true (show (j + 1, 0).1 < kT ts k from e)]
   show 25 * (kT ts k - (j + 1) - 1) + 18 + sur 0 lk + 1 < _
   omega
  ·rw [decide_eq_false (show ¬ (j + 1, 0).1 < kT ts k from e)]
   show 1 < _
   omega
theorem st6 (hc : canW w k = true) (h : SpI ts w ls c lk ind) (H : Here ts w ls c k j 6 ⟨23, 1, 0, 0⟩) : SpX ts (doW w k) (pot ts w ls lk) := by
 refine mv_go h H (p := (j, 7)) (do_of H.hi (w1 := w) (t1 := pc1 (thrAt w k)) rfl) (.inl ⟨H.hj, of_decide_eq_true rfl⟩) ?_ ⟨H.h0, H.left, H.fault⟩ H.fr H.rg.1 rfl rfl rfl (.inl (noBuf h H (by decide))) rfl rfl ?_ rfl
 ·show (thrAt w k).pc + 1 = _
  rw [H.pc]; rfl
 ·have hl : lk ≠ 1 := fun e => by
   unfold canW at hc
   rw [Bool.and_eq_true, H.hi] at hc
   have hc2 : (decide ((bufAt w.tso k).length = 0) && (!decide ((mLoad w.tso.mem (g0 (thrAt w k).regs 0)).2 = 0) || !decide ((mLoad w.tso.mem (g0 (thrAt w k).regs 0)).1 = g0 (thrAt w k).regs 1))) = true := hc.2
   rw [H.rg.1, H.rg.2, h.mem, e, Bool.and_eq_true] at hc2
   have hff : false = true := hc2.2
   cases hff
  have hj := H.hj
  unfold phi sur
  rw [decide_eq_true hj, decide_eq_false hl]
  show 25 * (kT ts k - j - 1) + 17 + 0 + 1 < 25 * (kT ts k - j - 1) + 18 + 0 + 1
  omega
theorem m_load {lk c : Int} {q : Nat} (h1 : 1 ≤ q) (h2 : q ≤ 2) : mLoad ⟨[0, lk, c], [0, 1, 1]⟩ (q : Int) = (g0 [0, lk, c] q, 0) := by
 have : q = 1 ∨ q = 2 := by omega
 rcases this with rfl | rfl <;> rfl
theorem m_load1 {lk c : Int} : mLoad ⟨[0, lk, c], [0, 1, 1]⟩ 1 = (lk, 0) := rfl
theorem m_store1 {lk c v : Int} : mStore ⟨[0, lk, c], [0, 1, 1]⟩ 1 v = (⟨[0, v, c], [0, 1, 1]⟩, 0) := rfl
theorem m_store2 {lk c v : Int} : mStore ⟨[0, lk, c], [0, 1, 1]⟩ 2 v = (⟨[0, lk, v], [0, 1, 1]⟩, 0) := rfl
theorem st12 (h : SpI ts w ls c lk ind) (H : Here ts w ls c k j 12 ⟨16, 5, 4, 0⟩) : SpX ts (doW w k) (pot ts w ls lk) := by
 have hb := noBuf h H (by decide)
 have ha : IntKind.i64.wrap (rg (thrAt w k) 4 + 0) = ((2 : Nat) : Int) := by show IntKind.i64.wrap (g0 (thrAt w k).regs 4 + 0) = _; rw [H.rg]; rfl
 have hl : tsLoad w.tso k (IntKind.i64.wrap (rg (thrAt w k) 4 + 0)) = ((c : Int), 0) := by
  unfold tsLoad
  rw [ha, h.mem, m_load (by decide) (by decide), hb]; rfl
 have hd : doN w k (thrAt w k) ⟨16, 5, 4, 0⟩ = (w, setR (pc1 (thrAt w k)) 5 c, 0) := by
  show (w, setR (pc1 (thrAt w k)) 5 (tsLoad w.tso k (IntKind.i64.wrap (rg (thrAt w k) 4 + 0))).1, (tsLoad w.tso k (IntKind.i64.wrap (rg (thrAt w k) 4 + 0))).2) = _
  rw [hl]
 refine mv_go h H (p := (j, 13)) (do_of H.hi hd) (.inl ⟨H.hj, of_decide_eq_true rfl⟩) ?_ ⟨H.h0, H.left, H.fault⟩ H.fr ⟨(set_regs (thrAt w k) (a := 5) (q := 4) (by decide)).trans H.rg, set_regs (thrAt w k) (a := 5) (q := 5) (by decide)⟩ rfl rfl rfl (.inl hb) rfl rfl (phi_lt H.hj rfl rfl) rfl
 show (thrAt w k).pc + 1 = _
 rw [H.pc]; rfl
theorem st_halt (hw : WdR w) (h : SpI ts w ls c lk ind) (hk : k < ts.length) (hls : ls k = (kT ts k, 0)) (h0 : (thrAt w k).state = 0) : SpX ts (doW w k) (pot ts w ls lk) := by
 have hA := h.at_ k hk
 have hpc : (thrAt w k).pc = ((spAt ts k + 10 * kT ts k : Nat) : Int) := by have := hA.pc h0; rw [hls] at this; exact this
 have hi : instrAt w (thrAt w k) = ⟨0, 0, 0, 0⟩ := instr_of hpc (by rw [h.code, kT_at hk]; exact code_halt ts hk)
 rw [do_of hi (w1 := w) (t1 := { thrAt w k with state := 1 }) rfl]
 have hf := hA.fr
 rw [hls] at hf
 refine ⟨_, _, _, _, spi_loc h hk (p := (kT ts k, 21)) ⟨.inr (.inr ⟨rfl, rfl, rfl⟩), fun e => absurd e (by show ¬ (1 : Int) = 0; decide), hf, trivial, hA.left, hA.fault⟩ ?_ ?_ ?_ ?_ ?_ ?_, pot_lt hk ?_ ?_ _⟩
 ·rw [hls]; rfl
 ·rw [hls]; rfl
 ·rw [hls]; rfl
 ·rcases h.buf k hk with hb | ⟨h1, h2, _⟩
  ·exact .inl hb
  ·rw [hls] at h1; simp only at h1; omega
 ·rw [hls]; rfl
 ·rw [hls]; rfl
 ·rw [hls]
  unfold phi
  rw [decide_eq_false (show ¬ (kT ts k, 21).1 < kT ts k from Nat.lt_irrefl _)]
  exact (by decide : 0 < 1)
 ·rw [hls]; rfl
theorem st4 (h : SpI ts w ls c lk ind) (H : Here ts w ls c k j 4 ⟨19, 1, 0, 2⟩) : SpX ts (doW w k) (pot ts w ls lk) := by
 have hk := H.kl h
 have hb := noBuf h H (by decide)
 obtain ⟨r0, r1, r2⟩ := H.rg
 have hlk : tsLocked w.tso k 0 (rg (thrAt w k) 0) (rg (thrAt w k) 1) (rg (thrAt w k) 2) = (⟨⟨[0, cond (decide (lk = 0)) 1 lk, (c : Int)], [0, 1, 1]⟩, w.tso.depth, w.tso.bufs⟩, lk, 0) := by
  show tsLocked w.tso k 0 (g0 (thrAt w k).regs 0) (g0 (thrAt w k).regs 1) (g0 (thrAt w k).regs 2) = _
  rw [r0, r1, r2]
  unfold tsLocked
  rw [hb, h.mem, m_load1, m_store1]; rfl
 have hd : doN w k (thrAt w k) ⟨19, 1, 0, 2⟩ = ({ w with tso := ⟨⟨[0, cond (decide (lk = 0)) 1 lk, (c : Int)], [0, 1, 1]⟩, w.tso.depth, w.tso.bufs⟩ }, setR (pc1 (thrAt w k)) 1 lk, 0) := by
  show ({ w with tso := (tsLocked w.tso k 0 (rg (thrAt w k) 0) (rg (thrAt w k) 1) (rg (thrAt w k) 2)).1 }, setR (pc1 (thrAt w k)) 1 (tsLocked w.tso k 0 (rg (thrAt w k) 0) (rg (thrAt w k) 1) (rg (thrAt w k) 2)).2.1, (tsLocked w.tso k 0 (rg (thrAt w k) 0) (rg (thrAt w k) 1) (rg (thrAt w k) 2)).2.2) = _
  rw [hlk]
 have hpc : (thrAt w k).pc + 1 = ((3 : Nat) : Int) := by rw [H.pc]; rfl
 have hr0 : g0 (setR (pc1 (thrAt w k)) 1 lk).regs 0 = 1 := (set_regs (thrAt w k) (a := 1) (v := lk) (q := 0) (by decide)).trans r0
 have hr1 : g0 (setR (pc1 (thrAt w k)) 1 lk).regs 1 = lk := set_regs (thrAt w k) (a := 1) (v := lk) (q := 1) (by decide)
 rcases h.own with ⟨a, b, d, e⟩ | ⟨a, hrest⟩
 ·subst a
  rw [do_of H.hi hd]
  refine ⟨up ls k (j, 8), c, 1, ind, ⟨h.code, by unfold setT; simp [h.len], rfl, fun i hi => ?_, fun i hi => ?_, ?_, ?_, ?_⟩, ?_⟩
  ·rw [thrAt_set _ _ (by exact H.hk)]
   by_cases e : i = k
   ·subst e
    rw [if_pos rfl, up_at]
    exact ⟨.inl ⟨H.hj, of_decide_eq_true rfl, H.h0⟩, fun _ => hpc, H.fr, ⟨hr0, hr1⟩, H.left, H.fault⟩
   ·rw [if_neg e, up_ne ls _ e]; exact h.at_ i hi
  ·by_cases e : i = k
   ·subst e; exact .inl hb
   ·rw [up_ne ls _ e]; exact h.buf i hi
  ·refine .inr ⟨rfl, k, hk, by rw [up_at]; rfl, fun i hi hne => by rw [up_ne ls _ hne]; exact e i hi, by rw [up_at]; exact b, ?_⟩
   rw [up_at]
   show c + (bufAt w.tso k).length = _
   rw [hb]
   exact d
  ·rcases h.who with ⟨a, b⟩ | ⟨q, a, b, d⟩
   ·refine .inl ⟨a, fun i hi => ?_⟩
    by_cases e : i = k
    ·subst e; rw [up_at]; rfl
    ·rw [up_ne ls _ e]; exact b i hi
   ·exact absurd (ins_hol d) (by rw [e q b]; decide)
  ·rw [tally_same (f := fun i => insN (up ls k (j, 8) i)) (f' := fun i => insN (ls i)) (fun q _ => by
    by_cases e : q = k
    ·subst e; rw [up_at, H.hls]; rfl
    ·rw [up_ne ls _ e]), tally_same (f := fun i => outN (up ls k (j, 8) i)) (f' := fun i => outN (ls i)) (fun q _ => by
    by_cases e : q = k
    ·subst e; rw [up_at, H.hls]; rfl
    ·rw [up_ne ls _ e])]
   exact h.sc
  ·have hlt := sumN_lt (f := fun i => hI ts.length (kT ts i) (ls i) 0 (bufAt w.tso i).length) (f' := fun i => hI ts.length (kT ts i) (up ls k (j, 8) i) 1 (bufAt w.tso i).length) (b := 12) (d := 12 * ts.length) ts.length hk (by
    simp only [up_at, H.hls]
    have hj := H.hj
    unfold hI phi
    rw [decide_eq_true hj]
    show 2 * (25 * (kT ts k - j - 1) + 13 + 0 + 1) + (bufAt w.tso k).length + 14 * ts.length * (kT ts k - (j + 1)) + 12 * ts.length < 2 * (25 * (kT ts k - j - 1) + 14 + 0 + 1) + (bufAt w.tso k).length + 14 * ts.length * (kT ts k - (j + 0))
    have : 14 * ts.length * (kT ts k - (j + 0)) = 14 * ts.length * (kT ts k - (j + 1)) + 14 * ts.length := by
     rw [show kT ts k - (j + 0) = (kT ts k - (j + 1)) + 1 by omega, Nat.mul_add, Nat.mul_one]
    omega) (fun i hi hne => by
    simp only [up_ne ls _ hne]
    have : phi (kT ts i) (ls i) 1 ≤ phi (kT ts i) (ls i) 0 + 6 := by
     unfold phi sur
     cases decide ((ls i).1 < kT ts i) <;> cases spn (ls i).2 <;> simp <;> omega
    unfold hI
    omega)
   unfold pot
   show sumN ts.length (fun i => hI ts.length (kT ts i) (up ls k (j, 8) i) 1 (bufAt w.tso i).length) < _
   omega
 ·subst a
  have hw1 : ({ w with tso := ⟨⟨[0, cond (decide ((1 : Int) = 0)) 1 1, (c : Int)], [0, 1, 1]⟩, w.tso.depth, w.tso.bufs⟩ } : Wd) = w := by
   have : (⟨⟨[0, cond (decide ((1 : Int) = 0)) 1 1, (c : Int)], [0, 1, 1]⟩, w.tso.depth, w.tso.bufs⟩ : Tso) = w.tso := by
    have e := h.mem
    cases hh : w.tso with
    | mk m d b => rw [hh] at e; simp only at e; rw [e]; rfl
   rw [this]
  rw [hw1] at hd
  exact mv_go h H (p := (j, 5)) (do_of H.hi hd) (.inl ⟨H.hj, of_decide_eq_true rfl⟩) hpc ⟨H.h0, H.left, H.fault⟩ H.fr ⟨hr0, hr1⟩ rfl rfl rfl (.inl hb) rfl rfl (by
   have hj := H.hj
   unfold phi sur
   rw [decide_eq_true hj]
   show 25 * (kT ts k - j - 1) + 19 + 0 + 1 < 25 * (kT ts k - j - 1) + 14 + 6 + 1
   omega) rfl
end
end Go.AL
end
section
set_option maxRecDepth 100000
namespace Go.AL
open Go Go.Proofs
section
variable {ts : List Int} {w : Wd} {ls : Nat → Nat × Nat} {c : Nat} {lk ind : Int} {k j : Nat}
theorem holds (h : SpI ts w ls c lk ind) (hk : k < ts.length) (hh : hol (ls k).2 = true) : lk = 1 ∧ (∀ i, i < ts.length → i ≠ k → hol (ls i).2 = false) ∧ cntE 2 w.evs = cntE 3 w.evs + cond (ins1 (ls k).2) 1 0 ∧ c + (bufAt w.tso k).length = cntE 3 w.evs + cond (decide ((ls k).2 = 15)) 1 0 := by
 rcases h.own with ⟨a, b, d, e⟩ | ⟨a, q, b, d, e, f, g⟩
 ·rw [e k hk] at hh; cases hh
 ·by_cases hq : k = q
  ·subst hq; exact ⟨a, e, f, g⟩
  ·rw [e k hk hq] at hh; cases hh
theorem At.set {ts : List Int} {w : Wd} {ls : Nat → Nat × Nat} {c' : Int} {k : Nat} {t : Thr} {p : Nat × Nat} (hw : k < w.thr.length) (h : ∀ i, i < ts.length → i ≠ k → At ts i (ls i) c' (thrAt w i)) (ht : At ts k p c' t) : ∀ i, i < ts.length → At ts i (up ls k p i) c' (thrAt (setT w k t) i) := fun i hi => by
 rw [thrAt_set _ _ hw]
 by_cases e : i = k
 ·subst e; rw [if_pos rfl, up_at]; exact ht
 ·rw [if_neg e, up_ne ls _ e]; exact h i hi e
theorem nhol {s : Nat} (h : hol s = false) : ins1 s = false ∧ s ≠ 13 ∧ s ≠ 14 ∧ s ≠ 15 := by
 unfold hol at h
 unfold ins1
 simp only [Bool.and_eq_false_iff, decide_eq_false_iff_not] at h ⊢
 omega
theorem tal {p : Nat × Nat} {s : Nat} (hls : ls k = (j, s)) {f : Nat × Nat → Nat} (h : f p = f (j, s)) (n : Nat) : tally n (fun i => f (up ls k p i)) = tally n fun i => f (ls i) := tally_same fun q _ => by
 by_cases e : q = k
 ·subst e; rw [up_at, hls, h]
 ·rw [up_ne ls _ e]
theorem tal1 {p : Nat × Nat} {s : Nat} (hls : ls k = (j, s)) {f : Nat × Nat → Nat} (h : f p = f (j, s) + 1) {n : Nat} (hk : k < n) : inc (tally n fun i => f (ls i)) k = tally n fun i => f (up ls k p i) := tally_inc hk (by rw [up_at, hls, h]) fun q hq => by rw [up_ne ls _ hq]
theorem st10 (h : SpI ts w ls c lk ind) (H : Here ts w ls c k j 10 ⟨26, 2, 0, 0⟩) : SpX ts (doW w k) (pot ts w ls lk) := by
 have hk := H.kl h
 have hb := noBuf h H (by decide)
 obtain ⟨a1, a2, a3, a4⟩ := holds h hk (by rw [H.hls]; rfl)
 rw [H.hls] at a3 a4
 have hd : doN w k (thrAt w k) ⟨26, 2, 0, 0⟩ = ({ w with evs := w.evs ++ [⟨2, k, [g0 (thrAt w k).regs 0, g0 (thrAt w k).regs 1, g0 (thrAt w k).regs 2, g0 (thrAt w k).regs 3]⟩] }, pc1 (thrAt w k), 0) := rfl
 rw [do_of H.hi hd]
 have hin : ind = -1 := by
  rcases h.who with ⟨a, _⟩ | ⟨q, a, b, d⟩
  ·exact a
  ·by_cases e : q = k
   ·subst e; rw [H.hls] at d; cases d
   ·rw [(nhol (a2 q b e)).1] at d; cases d
 subst a1
 refine ⟨up ls k (j, 11), c, 1, k, ⟨h.code, by unfold setT; simp [h.len], h.mem, ?_, fun i hi => ?_, ?_, ?_, ?_⟩, pot_lt (w := w) hk (by rw [H.hls]; exact phi_lt H.hj rfl rfl) (by rw [H.hls]; rfl) (pc1 (thrAt w k))⟩
 ·refine At.set (w := { w with evs := _ }) H.hk (fun i hi _ => h.at_ i hi) ⟨.inl ⟨H.hj, of_decide_eq_true rfl, H.h0⟩, fun _ => ?_, fr_no rfl rfl (fr0 H rfl rfl), trivial, H.left, H.fault⟩
  show (thrAt w k).pc + 1 = _
  rw [H.pc]; rfl
 ·by_cases e : i = k
  ·subst e; exact .inl hb
  ·rw [up_ne ls _ e]; exact h.buf i hi
 ·refine .inr ⟨rfl, k, hk, by rw [up_at]; rfl, fun i hi hne => by rw [up_ne ls _ hne]; exact a2 i hi hne, ?_, ?_⟩
  ·show cntE 2 (w.evs ++ _) = cntE 3 (w.evs ++ _) + _
   rw [cntE_snoc, cntE_snoc, up_at, a3]; rfl
  ·show c + (bufAt w.tso k).length = cntE 3 (w.evs ++ _) + _
   rw [cntE_snoc, up_at, a4]; rfl
 ·exact .inr ⟨k, rfl, hk, by rw [up_at]; rfl⟩
 ·show scE ts.length (w.evs ++ _) = _
  rw [scE_snoc, h.sc, hin]
  show scStep ts.length _ _ = _
  unfold scStep
  rw [decide_eq_false (show ¬ ((k : Nat) : Int) < 0 by omega), decide_eq_false (show ¬ ((k : Nat) : Int) ≥ ts.length by omega)]
  show some _ = some _
  rw [show (((k : Nat) : Int)).toNat = k by omega, tal1 H.hls (p := (j, 11)) (f := insN) rfl hk, tal H.hls (p := (j, 11)) (f := outN) rfl]
theorem st15 (h : SpI ts w ls c lk ind) (H : Here ts w ls c k j 15 ⟨26, 3, 0, 0⟩) : SpX ts (doW w k) (pot ts w ls lk) := by
 have hk := H.kl h
 obtain ⟨a1, a2, a3, a4⟩ := holds h hk (by rw [H.hls]; rfl)
 have hbk := h.buf k hk
 rw [H.hls] at a3 a4
 have hd : doN w k (thrAt w k) ⟨26, 3, 0, 0⟩ = ({ w with evs := w.evs ++ [⟨3, k, [g0 (thrAt w k).regs 0, g0 (thrAt w k).regs 1, g0 (thrAt w k).regs 2, g0 (thrAt w k).regs 3]⟩] }, pc1 (thrAt w k), 0) := rfl
 rw [do_of H.hi hd]
 have hin : ind = k := by
  rcases h.who with ⟨a, b⟩ | ⟨q, a, b, d⟩
  ·have := b k hk; rw [H.hls] at this; cases this
  ·by_cases e : q = k
   ·rw [a, e]
   ·rw [(nhol (a2 q b e)).1] at d; cases d
 subst a1
 refine ⟨up ls k (j, 16), c, 1, -1, ⟨h.code, by unfold setT; simp [h.len], h.mem, ?_, fun i hi => ?_, ?_, ?_, ?_⟩, pot_lt (w := w) hk (by rw [H.hls]; exact phi_lt H.hj rfl rfl) (by rw [H.hls]; rfl) (pc1 (thrAt w k))⟩
 ·refine At.set (w := { w with evs := _ }) H.hk (fun i hi _ => h.at_ i hi) ⟨.inl ⟨H.hj, of_decide_eq_true rfl, H.h0⟩, fun _ => ?_, fr_no rfl rfl (fr0 H rfl rfl), trivial, H.left, H.fault⟩
  show (thrAt w k).pc + 1 = _
  rw [H.pc]; rfl
 ·by_cases e : i = k
  ·subst e
   rw [up_at]
   rcases hbk with hb | ⟨_, _, hb⟩
   ·exact .inl hb
   ·exact .inr ⟨of_decide_eq_true rfl, of_decide_eq_true rfl, hb⟩
  ·rw [up_ne ls _ e]; exact h.buf i hi
 ·refine .inr ⟨rfl, k, hk, by rw [up_at]; rfl, fun i hi hne => by rw [up_ne ls _ hne]; exact a2 i hi hne, ?_, ?_⟩
  ·show cntE 2 (w.evs ++ _) = cntE 3 (w.evs ++ _) + _
   rw [cntE_snoc, cntE_snoc, up_at, a3]; rfl
  ·show c + (bufAt w.tso k).length = cntE 3 (w.evs ++ _) + _
   rw [cntE_snoc, up_at, a4]; rfl
 ·refine .inl ⟨rfl, fun i hi => ?_⟩
  by_cases e : i = k
  ·subst e; rw [up_at]; rfl
  ·rw [up_ne ls _ e]; exact (nhol (a2 i hi e)).1
 ·show scE ts.length (w.evs ++ _) = _
  rw [scE_snoc, h.sc, hin]
  show scStep ts.length _ _ = _
  unfold scStep
  rw [decide_eq_false (show ¬ ((k : Nat) : Int) < 0 by omega), decide_eq_false (show ¬ ((k : Nat) : Int) ≥ ts.length by omega)]
  show cond (decide (((k : Nat) : Int) = ((k : Nat) : Int))) _ _ = some _
  rw [decide_eq_true rfl]
  show some _ = some _
  rw [show (((k : Nat) : Int)).toNat = k by omega, tal1 H.hls (p := (j, 16)) (f := outN) rfl hk, tal H.hls (p := (j, 16)) (f := insN) rfl]
theorem own_mem (h : SpI ts w ls c lk ind) {s s' : Nat} {i : Ins} (H : Here ts w ls c k j s i) (hs : hol s = true) (hs' : hol s' = true) {T : Tso} {c' : Nat} {t : Thr} (e : doW w k = setT { w with tso := T } k t) (hm : T.mem = ⟨[0, 1, (c' : Int)], [0, 1, 1]⟩) (hb : ∀ i, i ≠ k → bufAt T i = bufAt w.tso i)
  (hbk : bufAt T k = [] ∨ (15 ≤ s' ∧ s' ≤ 19 ∧ bufAt T k = [⟨2, (c' : Int) + 1⟩])) (ht : At ts k (j, s') c' t) (h2 : ins1 s' = ins1 s) (hc : c' + (bufAt T k).length = cntE 3 w.evs + cond (decide (s' = 15)) 1 0) (h5 : insN (j, s') = insN (j, s)) (h6 : outN (j, s') = outN (j, s)) (h7 : 2 * gS s' + (bufAt T k).length < 2 * gS s + (bufAt w.tso k).length) (h8 : spn s' = spn s) (h9 : acq (j, s') = acq (j, s)) : SpX ts (doW w k) (pot ts w ls lk) := by
 have hk := H.kl h
 obtain ⟨a1, a2, a3, a4⟩ := holds h hk (by rw [H.hls]; exact hs)
 rw [H.hls] at a3
 subst a1
 rw [e]
 refine ⟨up ls k (j, s'), c', 1, ind, ⟨h.code, by unfold setT; simp [h.len], hm, ?_, fun i hi => ?_, ?_, ?_, ?_⟩, ?_⟩
 ·exact At.set (w := { w with tso := T }) H.hk (fun i hi hne => (h.at_ i hi).other (nhol (a2 i hi hne)).2.1 (nhol (a2 i hi hne)).2.2.1) ht
 ·by_cases e : i = k
  ·subst e; rw [up_at]; exact hbk
  ·rw [up_ne ls _ e]
   show bufAt T i = [] ∨ _
   rw [hb i e]
   rcases h.buf i hi with b | ⟨b1, b2, _⟩
   ·exact .inl b
   ·have := a2 i hi e
    unfold hol at this
    simp only [Bool.and_eq_false_iff, decide_eq_false_iff_not] at this
    omega
 ·exact .inr ⟨rfl, k, hk, by rw [up_at]; exact hs', fun i hi hne => by rw [up_ne ls _ hne]; exact a2 i hi hne, by rw [up_at]; show _ = _ + cond (ins1 s') 1 0; rw [h2]; exact a3, by rw [up_at]; exact hc⟩
 ·rcases h.who with ⟨a, b⟩ | ⟨q, a, b, d⟩
  ·refine .inl ⟨a, fun i hi => ?_⟩
   by_cases e : i = k
   ·subst e; rw [up_at]; show ins1 s' = false; rw [h2]; have := b i hi; rw [H.hls] at this; exact this
   ·rw [up_ne ls _ e]; exact b i hi
  ·refine .inr ⟨q, a, b, ?_⟩
   by_cases e : q = k
   ·subst e; rw [up_at]; show ins1 s' = true; rw [h2]; rw [H.hls] at d; exact d
   ·rw [up_ne ls _ e]; exact d
 ·rw [tal H.hls (p := (j, s')) (f := insN) h5, tal H.hls (p := (j, s')) (f := outN) h6]
  exact h.sc
 ·have hlt := sumN_lt (f := fun i => hI ts.length (kT ts i) (ls i) 1 (bufAt w.tso i).length) (f' := fun i => hI ts.length (kT ts i) (up ls k (j, s') i) 1 (bufAt T i).length) (b := 0) (d := 0) ts.length hk (by
   simp only [up_at, H.hls]
   have hj := H.hj
   unfold hI phi sur
   rw [decide_eq_true hj, h9]
   show 2 * (25 * (kT ts k - j - 1) + gS s' + cond (spn s' && _) 6 0 + 1) + (bufAt T k).length + _ + 0 < 2 * (25 * (kT ts k - j - 1) + gS s + cond (spn s && _) 6 0 + 1) + (bufAt w.tso k).length + _
   rw [h8]; omega) (fun i hi hne => by
   simp only [up_ne ls _ hne, hb i hne]
   omega)
  unfold pot
  show sumN ts.length (fun i => hI ts.length (kT ts i) (up ls k (j, s') i) 1 (bufAt T i).length) < _
  omega
theorem st14 (h : SpI ts w ls c lk ind) (H : Here ts w ls c k j 14 ⟨17, 5, 4, 0⟩) : SpX ts (doW w k) (pot ts w ls lk) := by
 have hk := H.kl h
 have hb := noBuf h H (by decide)
 obtain ⟨a1, a2, a3, a4⟩ := holds h hk (by rw [H.hls]; rfl)
 rw [H.hls, hb] at a4
 have a4 : c + 0 = cntE 3 w.evs + 0 := a4
 obtain ⟨r4, r5⟩ := H.rg
 have hkb : k < w.tso.bufs.length := by rw [← H.hw.len]; exact H.hk
 have hpc : (thrAt w k).pc + 1 = ((pcS (spAt ts k) j 15 : Nat) : Int) := by rw [H.pc]; rfl
 have ha : IntKind.i64.wrap (rg (thrAt w k) 4 + 0) = 2 := by show IntKind.i64.wrap (g0 (thrAt w k).regs 4 + 0) = _; rw [r4]; rfl
 have hv : rg (thrAt w k) 5 = (c : Int) + 1 := r5
 have hnew : At ts k (j, 15) ((c + 1 : Nat) : Int) (pc1 (thrAt w k)) ∧ At ts k (j, 15) (c : Int) (pc1 (thrAt w k)) := ⟨⟨.inl ⟨H.hj, of_decide_eq_true rfl, H.h0⟩, fun _ => hpc, fr_no rfl rfl (fr0 H rfl rfl), trivial, H.left, H.fault⟩, ⟨.inl ⟨H.hj, of_decide_eq_true rfl, H.h0⟩, fun _ => hpc, fr_no rfl rfl (fr0 H rfl rfl), trivial, H.left, H.fault⟩⟩
 have hd : doN w k (thrAt w k) ⟨17, 5, 4, 0⟩ = ({ w with tso := (tsStore w.tso k 2 ((c : Int) + 1)).1 }, pc1 (thrAt w k), (tsStore w.tso k 2 ((c : Int) + 1)).2) := by
  show ({ w with tso := (tsStore w.tso k (IntKind.i64.wrap (rg (thrAt w k) 4 + 0)) (rg (thrAt w k) 5)).1 }, pc1 (thrAt w k), (tsStore w.tso k (IntKind.i64.wrap (rg (thrAt w k) 4 + 0)) (rg (thrAt w k) 5)).2) = _
  rw [ha, hv]
 have hmem : w.tso.mem = ⟨[0, 1, (c : Int)], [0, 1, 1]⟩ := by rw [h.mem, a1]
 by_cases e0 : w.tso.depth = 0
 ·have hts : tsStore w.tso k 2 ((c : Int) + 1) = (⟨⟨[0, 1, (c : Int) + 1], [0, 1, 1]⟩, w.tso.depth, w.tso.bufs⟩, 0) := by
   unfold tsStore
   rw [hmem, m_store2, decide_eq_true e0]; rfl
  rw [hts] at hd
  exact own_mem h H rfl (s' := 15) rfl (do_of H.hi hd) (c' := c + 1) rfl (fun i _ => rfl) (.inl hb) hnew.1 rfl (by show c + 1 + (bufAt w.tso k).length = _; rw [hb]; show c + 1 + 0 = cntE 3 w.evs + 1; omega) rfl rfl (by show 2 * 6 + (bufAt w.tso k).length < 2 * 7 + (bufAt w.tso k).length; omega) rfl rfl
 ·have hlen : ¬ (((bufAt w.tso k).length : Int) = w.tso.depth) := by rw [hb]; exact fun e => e0 e.symm
  have hts : tsStore w.tso k 2 ((c : Int) + 1) = (⟨w.tso.mem, w.tso.depth, w.tso.bufs.set k [⟨2, (c : Int) + 1⟩]⟩, 0) := by
   unfold tsStore
   rw [decide_eq_false e0, decide_eq_false hlen, hb, show (mStore w.tso.mem 2 ((c : Int) + 1)).2 = 0 by rw [hmem, m_store2]]; rfl
  rw [hts] at hd
  have hbs := bufAt_set w.tso [⟨2, (c : Int) + 1⟩] w.tso.mem hkb
  refine own_mem h H rfl (s' := 15) rfl (do_of H.hi hd) (c' := c) hmem (fun i hne => by rw [hbs, if_neg hne]) (.inr ⟨by decide, by decide, by rw [hbs, if_pos rfl]⟩) hnew.2 rfl ?_ rfl rfl ?_ rfl rfl
  ·rw [hbs, if_pos rfl]
   show c + 1 = cntE 3 w.evs + 1
   omega
  ·rw [hbs, if_pos rfl, hb]
   exact (by decide : 2 * 6 + 1 < 2 * 7 + 0)
theorem st19 (h : SpI ts w ls c lk ind) (H : Here ts w ls c k j 19 ⟨20, 1, 0, 0⟩) (hc : canW w k = true) : SpX ts (doW w k) (pot ts w ls lk) := by
 have hk := H.kl h
 have hb : bufAt w.tso k = [] := by
  unfold canW at hc
  rw [Bool.and_eq_true, H.hi] at hc
  have : decide ((bufAt w.tso k).length = 0) = true := hc.2
  exact List.length_eq_zero_iff.1 (of_decide_eq_true this)
 obtain ⟨a1, a2, a3, a4⟩ := holds h hk (by rw [H.hls]; rfl)
 rw [H.hls] at a3 a4
 rw [hb] at a4
 have a4 : c + 0 = cntE 3 w.evs + 0 := a4
 have a3 : cntE 2 w.evs = cntE 3 w.evs + 0 := a3
 obtain ⟨r0, r1⟩ := H.rg
 have hlk : tsLocked w.tso k 1 (rg (thrAt w k) 0) (rg (thrAt w k) 1) 0 = (⟨⟨[0, 0, (c : Int)], [0, 1, 1]⟩, w.tso.depth, w.tso.bufs⟩, lk, 0) := by
  show tsLocked w.tso k 1 (g0 (thrAt w k).regs 0) (g0 (thrAt w k).regs 1) 0 = _
  rw [r0, r1]
  unfold tsLocked
  rw [hb, h.mem, m_load1, m_store1]; rfl
 have hd : doN w k (thrAt w k) ⟨20, 1, 0, 0⟩ = ({ w with tso := ⟨⟨[0, 0, (c : Int)], [0, 1, 1]⟩, w.tso.depth, w.tso.bufs⟩ }, setR (pc1 (thrAt w k)) 1 lk, 0) := by
  show ({ w with tso := (tsLocked w.tso k 1 (rg (thrAt w k) 0) (rg (thrAt w k) 1) 0).1 }, setR (pc1 (thrAt w k)) 1 (tsLocked w.tso k 1 (rg (thrAt w k) 0) (rg (thrAt w k) 1) 0).2.1, (tsLocked w.tso k 1 (rg (thrAt w k) 0) (rg (thrAt w k) 1) 0).2.2) = _
  rw [hlk]
 rw [do_of H.hi hd]
 subst a1
 refine ⟨up ls k (j, 20), c, 0, ind, ⟨h.code, by unfold setT; simp [h.len], rfl, ?_, fun i hi => ?_, ?_, ?_, ?_⟩, ?_⟩
 ·refine At.set (w := { w with tso := _ }) H.hk (fun i hi _ => h.at_ i hi) ⟨.inl ⟨H.hj, of_decide_eq_true rfl, H.h0⟩, fun _ => ?_, H.fr, trivial, H.left, H.fault⟩
  show (thrAt w k).pc + 1 = _
  rw [H.pc]; rfl
 ·by_cases e : i = k
  ·subst e; exact .inl hb
  ·rw [up_ne ls _ e]; exact h.buf i hi
 ·refine .inl ⟨rfl, a3, by show c = cntE 3 w.evs; omega, fun i hi => ?_⟩
  by_cases e : i = k
  ·subst e; rw [up_at]; rfl
  ·rw [up_ne ls _ e]; exact a2 i hi e
 ·rcases h.who with ⟨a, b⟩ | ⟨q, a, b, d⟩
  ·refine .inl ⟨a, fun i hi => ?_⟩
   by_cases e : i = k
   ·subst e; rw [up_at]; rfl
   ·rw [up_ne ls _ e]; exact b i hi
  ·by_cases e : q = k
   ·subst e; rw [H.hls] at d; cases d
   ·rw [(nhol (a2 q b e)).1] at d; cases d
 ·rw [tal H.hls (p := (j, 20)) (f := insN) rfl, tal H.hls (p := (j, 20)) (f := outN) rfl]
  exact h.sc
 ·have hlt := sumN_lt (f := fun i => hI ts.length (kT ts i) (ls i) 1 (bufAt w.tso i).length) (f' := fun i => hI ts.length (kT ts i) (up ls k (j, 20) i) 0 (bufAt w.tso i).length) (b := 0) (d := 0) ts.length hk (by
   simp only [up_at, H.hls]
   have hj := H.hj
   unfold hI phi
   rw [decide_eq_true hj]
   show 2 * (25 * (kT ts k - j - 1) + 1 + 0 + 1) + (bufAt w.tso k).length + 14 * ts.length * (kT ts k - (j + 1)) + 0 < 2 * (25 * (kT ts k - j - 1) + 2 + 0 + 1) + (bufAt w.tso k).length + 14 * ts.length * (kT ts k - (j + 1))
   omega) (fun i hi hne => by
   simp only [up_ne ls _ hne]
   have : phi (kT ts i) (ls i) 0 ≤ phi (kT ts i) (ls i) 1 := by
    unfold phi sur
    cases decide ((ls i).1 < kT ts i) <;> cases spn (ls i).2 <;> simp
   unfold hI
   omega)
  unfold pot
  show sumN ts.length (fun i => hI ts.length (kT ts i) (up ls k (j, 20) i) 0 (bufAt w.tso i).length) < _
  omega
theorem sp_flush (h : SpI ts w ls c lk ind) (hw : WdR w) {p : Wput} {r : List Wput} (hk : k < w.thr.length) (hb : bufAt w.tso k = p :: r) : SpX ts (flushD w k p r) (pot ts w ls lk) := by
 have hkn : k < ts.length := by rw [← h.len]; exact hk
 have hkb : k < w.tso.bufs.length := by rw [← hw.len]; exact hk
 rcases h.buf k hkn with hb2 | ⟨s1, s2, hb2⟩
 ·rw [hb2] at hb; cases hb
 rw [hb2] at hb
 injection hb with e1 e2
 subst e1 e2
 have hh : hol (ls k).2 = true := by unfold hol; rw [decide_eq_true (by omega), decide_eq_true s2]; rfl
 obtain ⟨a1, a2, a3, a4⟩ := holds h hkn hh
 rw [hb2] at a4
 have a4 : c + 1 = cntE 3 w.evs + cond (decide ((ls k).2 = 15)) 1 0 := a4
 have hmem : w.tso.mem = ⟨[0, 1, (c : Int)], [0, 1, 1]⟩ := by rw [h.mem, a1]
 have hleft : ∀ t ∈ w.thr, t.left = [] := fun t ht => by
  obtain ⟨i, hi, e⟩ := List.mem_iff_getElem.1 ht
  have := (h.at_ i (by rw [← h.len]; exact hi)).left
  rw [thrAt_at hi, at_nat _ i hi, e] at this
  exact this
 have hst : mStore w.tso.mem 2 ((c : Int) + 1) = (⟨[0, 1, (c : Int) + 1], [0, 1, 1]⟩, 0) := by rw [hmem, m_store2]
 rw [flushD_eq]
 show SpX ts (wanW (cond (decide ((mStore w.tso.mem 2 ((c : Int) + 1)).2 = 0)) (memW (popW w k []) (mStore w.tso.mem 2 ((c : Int) + 1)).1) _) k) (pot ts w ls lk)
 rw [hst]
 show SpX ts (wanW (memW (popW w k []) ⟨[0, 1, (c : Int) + 1], [0, 1, 1]⟩) k) (pot ts w ls lk)
 rw [wan_id k (by exact hleft)]
 have hbs := bufAt_set w.tso [] ⟨[0, 1, (c : Int) + 1], [0, 1, 1]⟩ hkb
 subst a1
 refine ⟨ls, c + 1, 1, ind, ⟨h.code, h.len, rfl, fun i hi => ?_, fun i hi => ?_, ?_, h.who, h.sc⟩, ?_⟩
 ·refine (h.at_ i hi).other ?_ ?_
  ·by_cases e : i = k
   ·subst e; omega
   ·exact (nhol (a2 i hi e)).2.1
  ·by_cases e : i = k
   ·subst e; omega
   ·exact (nhol (a2 i hi e)).2.2.1
 ·show bufAt ⟨_, w.tso.depth, w.tso.bufs.set k []⟩ i = [] ∨ _
  rw [hbs]
  by_cases e : i = k
  ·rw [if_pos e]; exact .inl rfl
  ·rw [if_neg e]
   rcases h.buf i hi with b | ⟨b1, b2, _⟩
   ·exact .inl b
   ·have := a2 i hi e
    unfold hol at this
    simp only [Bool.and_eq_false_iff, decide_eq_false_iff_not] at this
    omega
 ·refine .inr ⟨rfl, k, hkn, hh, a2, a3, ?_⟩
  show c + 1 + (bufAt ⟨_, w.tso.depth, w.tso.bufs.set k []⟩ k).length = _
  rw [hbs, if_pos rfl]
  exact a4
 ·have hlt := sumN_lt (f := fun i => hI ts.length (kT ts i) (ls i) 1 (bufAt w.tso i).length) (f' := fun i => hI ts.length (kT ts i) (ls i) 1 (bufAt ⟨⟨[0, 1, (c : Int) + 1], [0, 1, 1]⟩, w.tso.depth, w.tso.bufs.set k []⟩ i).length) (b := 0) (d := 0) ts.length hkn (by
   simp only [hbs, if_pos, hb2]
   unfold hI
   simp only [List.length_nil, List.length_singleton]
   omega) (fun i hi hne => by
   simp only [hbs, if_neg hne]
   omega)
  unfold pot
  show sumN ts.length (fun i => hI ts.length (kT ts i) (ls i) 1 (bufAt ⟨⟨[0, 1, (c : Int) + 1], [0, 1, 1]⟩, w.tso.depth, w.tso.bufs.set k []⟩ i).length) < _
  omega
end
end Go.AL
end
section
set_option maxRecDepth 100000
namespace Go.AL
open Go Go.Proofs
attribute [local irreducible] J
end Go.AL
end
section
set_option maxRecDepth 100000
namespace Go.AL
open Go Go.Proofs
structure Had (m m' : Mem) (k n : Nat) : Prop where
 right : mRight m' = true
 words : m'.words = m.words
 len : m'.tags.length = m'.words.length
 fits : k + n ≤ m'.words.length
 inside : ∀ q, k ≤ q → q < k + n → g0 m'.tags q = 1
 outside : ∀ q, ¬ (k ≤ q ∧ q < k + n) → g0 m'.tags q = g0 m.tags q
 was : ∀ q, k ≤ q → q < k + n → g0 m.tags q ≠ 1
structure Laid (m m2 : Mem) (a b n : Nat) : Prop where
 right : mRight m2 = true
 words : m2.words = m.words
 len : m2.tags.length = m2.words.length
 at1 : a < m2.words.length
 live : g0 m2.tags a = 1
 fits : n = 0 ∨ b + n ≤ m2.words.length
 row : ∀ q, b ≤ q → q < b + n → g0 m2.tags q = 1
 apart : n = 0 ∨ a < b ∨ b + n ≤ a
end Go.AL
end
section
set_option maxRecDepth 100000
namespace Go.AL
open Go Go.Proofs
attribute [local irreducible] J
theorem join_ok (ls : List Bs) (sep : Bs) (h0 : ls ≠ []) (hN : ls.length ≤ 1000000) (hl : (Lib.join ls sep).length ≤ 1000000000) : ACalls Tryz.prog 153 [.sl (ls.map sv), sv sep] [] (one (sv (Lib.join ls sep)) []) := by
 refine ⟨⟨_, Tryz.func153, by kernel_rfl, by kernel_rfl⟩, fun ext w β us hI hx hr => ?_⟩
 obtain ⟨x, us1, rfl, ⟨A, m, es, rfl, hm, hb, hrow⟩, y, us2, rfl, hy, h2⟩ := hr
 have h2 : us2 = [] := h2
 have hy : y = S sep := hy
 subst h2 hy
 obtain ⟨b, o, rfl, hbad, hlt⟩ := hb (by simpa using h0)
 rw [List.length_map] at hm ⊢
 have hes : es = 1 := by
  obtain ⟨l0, r, rfl⟩ := List.exists_cons_of_ne_nil h0
  obtain ⟨v, hv1, hv2, _⟩ := hrow.get (i := 0) (a := sv l0) rfl
  have hv1 : v = S l0 := hv1
  subst hv1
  exact hv2.symm
 subst hes
 have hcells : ∀ (j : Nat) (x : ByteArray), (ls.map fun l => (⟨l.toArray⟩ : ByteArray))[j]? = some x → w.cell? ⟨b, o + j, none⟩ = some (.string x) := fun j x hj => by
  rw [List.getElem?_map, Option.map_eq_some_iff] at hj
  obtain ⟨l, hj, rfl⟩ := hj
  obtain ⟨v, hv1, hv2, hv3⟩ := hrow.get (i := j) (a := sv l) (by rw [List.getElem?_map, hj]; rfl)
  have hv1 : v = S l := hv1
  subst hv1
  have h9 := hv3 0 (by omega)
  simp only [Nat.zero_add, Nat.mul_one, Nat.add_zero] at h9
  exact h9.trans rfl
 have e1 : (ls.map fun l => (⟨l.toArray⟩ : ByteArray)).map (·.data.toList) = ls := by
  rw [List.map_map]
  exact List.map_id'' (fun l => by simp) ls
 have hlen : (ls.map fun l => (⟨l.toArray⟩ : ByteArray)).length = ls.length := List.length_map _
 have hc := Tryz.strings_Join b o m (ls.map fun l => ⟨l.toArray⟩) ⟨sep.toArray⟩ w hcells hlt (by rw [hlen]; omega) (by rw [hlen]; exact hm) (by rw [e1]; show (Lib.join ls sep.toArray.toList).length ≤ _; simp only [List.toList_toArray]; omega)
 rw [hlen, e1] at hc
 refine hc.mono fun en w' ⟨h1, h2⟩ => ?_
 subst h1
 exact ⟨sv (Lib.join ls sep), _, β, ⟨rfl, rfl⟩, by show _ = S (Lib.join ls sep); simp [S], below_inv hI h2, below_step h2 β fun b hb => (hI.sep b hb).2⟩
theorem join_ltx : ∀ (l : Bs) (ls : List Bs), Lib.join (l :: ls) [10] ++ [10] = ltx (l :: ls)
 | l, [] => by rw [Lib.join_one]; simp [ltx]
 | l, m :: ls => by
  have ih := join_ltx m ls
  rw [Lib.join_cons] at ih ⊢
  rw [ltx_cons, ← ih]
  simp [Lib.joinTail]
theorem ltx_ge (ls : List Bs) : (Lib.join ls [10]).length ≤ (ltx ls).length := by
 cases ls with
 | nil => simp [Lib.join_nil]
 | cons l ls => rw [← join_ltx]; simp
theorem splines_ok (ls : List Bs) (h0 : ls ≠ []) (hN : ls.length ≤ 1000000) (hl : (ltx ls).length ≤ 1000000) : ACalls Tryz.prog 95 [.sl (ls.map sv)] [] (one (sv (ltx ls)) []) := by
 have hge := ltx_ge ls
 have hj := join_ok ls [10] h0 hN (by omega)
 obtain ⟨l, r, rfl⟩ := List.exists_cons_of_ne_nil h0
 have e := join_ltx l r
 generalize Lib.join (l :: r) [10] = x at *
 rw [← e]
 refine jcalls Tryz.func95 rfl (by kernel_rfl) Tryz.ntmps95 rfl rfl (fun w0 β0 ext hβ => ?_)
 repeat (first | refine jS ?_ | refine jD ?_ | refine jB ?_ | refine jV hj ?_)
 refine jo rfl rfl (cat_str (a := x) (b := [10]) rfl rfl (by simp; omega)) rfl rfl ?_
 repeat (first | refine jS ?_ | refine jD ?_ | refine jB ?_)
 exact jR
def turnT : Bs := [115,101,116,32,114,48,32,49,10,99,97,108,108,32,108,111,99,107,10,109,97,114,107,32,50,10,115,101,116,32,114,52,32,50,10,108,111,97,100,32,114,53,32,114,52,32,48,10,112,108,117,115,32,114,53,32,114,53,32,49,10,115,116,111,114,101,32,114,53,32,114,52,32,48,10,109,97,114,107,32,51,10,115,101,116,32,114,48,32,49,10,99,97,108,108,32,117,110,108,111,99,107,10]
def spT : Bs := [108,111,99,107,58,10,115,101,116,32,114,49,32,48,10,115,101,116,32,114,50,32,49,10,99,97,115,32,114,49,32,114,48,32,114,50,10,122,101,114,111,32,114,49,32,108,111,99,107,101,100,10,119,97,105,116,32,114,49,32,114,48,10,106,117,109,112,32,108,111,99,107,10,108,111,99,107,101,100,58,10,114,101,116,10,117,110,108,111,99,107,58,10,115,101,116,32,114,49,32,48,10,120,99,104,103,32,114,49,32,114,48,10,114,101,116,10]
def haltT1 : Bs := [104,97,108,116,10]
theorem turnT_eq : ltx turnC = turnT := by decide +kernel
theorem spT_eq : ltx spC = spT := by decide +kernel
theorem haltT1_eq : ltx kH = haltT1 := by decide +kernel
theorem turn_ok : ACalls Tryz.prog 96 [] [] (one (sv turnT) []) := by
 have h := splines_ok turnC (by decide) (by decide) (by decide +kernel)
 rw [turnT_eq] at h
 unfold turnC at h
 refine jcalls Tryz.func96 rfl (by kernel_rfl) Tryz.ntmps96 rfl rfl (fun w0 β0 ext hβ => ?_)
 repeat (first | refine jS ?_ | refine jD ?_ | refine jB ?_ | refine jw h rfl rfl rfl rfl rfl rfl ?_)
 exact jR
theorem spThr_succ (ts : List Int) {k : Nat} (h : k < ts.length) : spThr (ts.take (k + 1)) 0 = spThr (ts.take k) 0 ++ thrLn k (at' ts (k : Int)) := by
 unfold spThr
 rw [List.take_succ_eq_append_getElem h, List.zipIdx_append, List.flatMap_append, at_nat ts k h, List.length_take, Nat.min_eq_left (Nat.le_of_lt h)]
 simp
def spP (ts : List Int) (k : Nat) : Bs := spT ++ ltx (spThr (ts.take k) 0)
theorem spP_succ (ts : List Int) {k : Nat} (h : k < ts.length) : spP ts (k + 1) = ((spP ts k ++ (tlab k ++ [10])) ++ ltx (List.replicate (at' ts (k : Int)).toNat turnC).flatten) ++ haltT1 := by
 unfold spP
 rw [spThr_succ ts h, ltx_app, ← haltT1_eq]
 unfold thrLn
 rw [ltx_cons, ltx_app]
 simp only [List.append_assoc]
theorem spP_all (ts : List Int) : spP ts ts.length = ltx (spLn ts) := by
 unfold spP spLn
 rw [List.take_length, ltx_app, spT_eq]
theorem spP_len (ts : List Int) (k : Nat) (hk : k ≤ ts.length) (h8 : ts.length ≤ 8) (hn : ∀ n ∈ ts.take k, 0 ≤ n ∧ n ≤ 9) : (spP ts k).length ≤ 9000 := by
 unfold spP
 have h1 := spThr_len (ts.take k) 0 (by rw [List.length_take]; omega) hn
 rw [List.length_take] at h1
 have h2 : spT.length ≤ 200 := by decide
 rw [List.length_append]
 omega
theorem repT (n : Nat) : ltx (List.replicate n turnC).flatten ++ turnT = ltx (List.replicate (n + 1) turnC).flatten := by
 rw [List.replicate_succ', List.flatten_append, ltx_app, ← turnT_eq]
 simp
def turnsOk (ts : List Int) : Bool := (ts.all fun n => inn n 0 9) && inn ts.length 1 8
def progT (ts : List Int) : Bs × Int := cond (turnsOk ts) (ltx (spLn ts), 0) ([], 2)
theorem allB {ts : List Int} {k : Nat} (h : ((ts.take k).all fun n => inn n 0 9) = true) : ∀ n ∈ ts.take k, 0 ≤ n ∧ n ≤ 9 := fun n hn => inn_iff.1 (List.all_eq_true.1 h n hn)
set_option maxHeartbeats 4000000 in
theorem sprog_mid (g : Gl) (ts : List Int) (h1 : 1 ≤ ts.length) (h8 : ts.length ≤ 8) : ACalls Tryz.prog 51 [ivs ts] (gls g) (one (.tup [sv (progT ts).1, iv (progT ts).2]) (gls g)) := by
 have f1 : decide (((ts.map iv).length : Int) < 1) = false := by rw [List.length_map]; exact decide_eq_false (by omega)
 have f2 : decide (((ts.map iv).length : Int) > 8) = false := by rw [List.length_map]; exact decide_eq_false (by omega)
 have hw0 := wstr_ok false [] spT (by decide) (by decide)
 have hlen := fun k hk hn => spP_len ts k hk h8 hn
 have hit := fun k => itoa_ok g (k : Int)
 have htn := turn_ok
 have hlm := fun l h => splines_ok [l] (by simp) (by simp) (h : (ltx [l]).length ≤ 1000000)
 have hhl := splines_ok kH (by decide) (by decide) (by decide)
 rw [haltT1_eq] at hhl
 unfold progT
 rw [← spP_all ts]
 have hP0 : spP ts 0 = spT := by unfold spP spThr; simp [ltx]
 rw [List.nil_append, ← hP0] at hw0
 unfold ivs
 unfold bld bldH adr at hw0
 unfold gls at *
 refine jcalls Tryz.func51 rfl (by kernel_rfl) Tryz.ntmps51 rfl rfl (fun w0 β0 ext hβ => ?_)
 repeat (first | refine jS ?_ | refine jD ?_ | refine jB ?_)
 rw [f1]
 repeat (first | refine jS ?_ | refine jD ?_ | refine jB ?_)
 rw [f2]
 repeat (first | refine jadB 4 1 5 1 rfl rfl rfl rfl ?_ | refine jS ?_ | refine jD ?_ | refine jB ?_)
 refine jb [4,5] hw0 rfl rfl rfl ⟨rfl, rfl, rfl, rfl, rfl, rfl⟩ rfl rfl rfl rfl ?_
 repeat (first | refine jS ?_ | refine jD ?_ | refine jB ?_)
 clear hw0
 refine jfin 6 [4, 16, 17, 18] true rfl rfl rfl (by show β0.length ≤ 6; rw [hβ]; exact (by decide : 4 ≤ 6)) ?_
 refine jloop 6 (fun k : Nat => k ≤ ts.length ∧ ((ts.take k).all fun n => inn n 0 9) = true) [4, 16, 17, 18] (fun k => [.ptr 4 0, .sl (ts.map iv), .v (.int .i64 ((ts.map iv).length : Int)), .v (.int .i64 (k : Int))])
  (fun k => [g.a, g.b, g.c, g.d, .box 86 [.ptr 4 0, .arr 5 ((spP ts k).length + 1)], .arr ((spP ts k).length + 1) 5 1 ((spP ts k).map encB)]) (fun k => ts.length - k) 0 (by show β0.length ≤ 6; rw [hβ]; exact (by decide : 4 ≤ 6)) ⟨Nat.zero_le _, rfl⟩ rfl rfl (fun k hk => ?_)
 obtain ⟨hk, hok⟩ := hk
 repeat (first | refine jS ?_ | refine jD ?_ | refine jB ?_)
 refine jc rfl rfl rfl (fun h => ?_) (fun h => ?_)
 ·have h := of_decide_eq_true h
  rw [List.length_map] at h
  have hk2 : k < ts.length := by omega
  have hidx : IntKind.i64.wrap ((k : Int) + 1) = ((k + 1 : Nat) : Int) := idx_next hk2 (by omega)
  have hB := hlen k hk (allB hok)
  have hsu := spP_succ ts hk2
  have hm := at_mem hk2
  have htk : (ts.take (k + 1)).all (fun n => inn n 0 9) = inn (at' ts (k : Int)) 0 9 := by
   rw [List.take_succ_eq_append_getElem hk2, List.all_append, hok, at_nat ts k hk2]; simp
  have hno : inn (at' ts (k : Int)) 0 9 = false → turnsOk ts = false := fun e => by
   unfold turnsOk
   rw [show (ts.all fun n => inn n 0 9) = false from by rw [List.all_eq_false]; exact ⟨_, hm, by rw [e]; decide⟩]; rfl
  have hit := hit k (by omega) (by omega)
  have htl := tname_len (n := k) (by omega)
  have hlm := hlm (tlab k) (by unfold tlab; simp [ltx]; omega)
  rw [show ltx [tlab k] = tlab k ++ [10] by simp [ltx]] at hlm
  have hw1 := wstr_ok true (spP ts k) (tlab k ++ [10]) (by simp) (by unfold tlab; simp; omega)
  repeat (first | refine jS ?_ | refine jD ?_ | refine jB ?_ | refine jo rfl rfl (index_at rfl rfl rfl rfl rfl rfl rfl rfl (Int.natCast_nonneg k) h) rfl rfl ?_)
  generalize at' ts (k : Int) = v at *
  generalize spP ts k = B at *
  by_cases c1 : v < 0
  ·rw [show decide (v < 0) = true from decide_eq_true c1]
   rw [hno (by cases e : inn v 0 9 with
    | false => rfl
    | true => have := (inn_iff.1 e).1; omega)]
   simp only [cond_false]
   repeat (first | refine jS ?_ | refine jD ?_ | refine jB ?_)
   exact jret [] true rfl rfl rfl ⟨rfl, rfl⟩
  rw [show decide (v < 0) = false from decide_eq_false c1]
  repeat (first | refine jS ?_ | refine jD ?_ | refine jB ?_)
  by_cases c2 : v > 9
  ·rw [show decide (v > 9) = true from decide_eq_true c2]
   rw [hno (by cases e : inn v 0 9 with
    | false => rfl
    | true => have := (inn_iff.1 e).2; omega)]
   simp only [cond_false]
   repeat (first | refine jS ?_ | refine jD ?_ | refine jB ?_)
   exact jret [] true rfl rfl rfl ⟨rfl, rfl⟩
  rw [show decide (v > 9) = false from decide_eq_false c2]
  have hnk : 0 ≤ v ∧ v ≤ 9 := ⟨by omega, by omega⟩
  have hok2 : (ts.take (k + 1)).all (fun n => inn n 0 9) = true := by rw [htk]; exact inn_iff.2 hnk
  clear htk hno
  unfold bld bldH adr at hw1
  repeat (first | refine jS ?_ | refine jD ?_ | refine jB ?_)
  refine jb [0,1,2,3] hit rfl rfl rfl ⟨rfl, rfl, rfl, rfl, rfl, rfl⟩ rfl rfl rfl rfl ?_
  refine jo rfl rfl (cat_str (a := [116]) (b := Lib.itoa k) rfl rfl (by have := tname_len (n := k) (by omega); unfold tname at this; simp at this ⊢; omega)) rfl rfl ?_
  repeat (first | refine jS ?_ | refine jD ?_ | refine jB ?_)
  refine jo rfl rfl (cat_str (a := [116] ++ Lib.itoa k) (b := [58]) rfl rfl (by have := tname_len (n := k) (by omega); unfold tname at this; simp at this ⊢; omega)) rfl rfl ?_
  rw [show ([116] ++ Lib.itoa (k : Int)) ++ [58] = tlab k from rfl]
  repeat (first | refine jS ?_ | refine jD ?_ | refine jB ?_ | refine jw hlm rfl rfl rfl rfl rfl rfl ?_)
  refine jb [4,5] hw1 rfl rfl rfl ⟨rfl, rfl, rfl, rfl, rfl, rfl⟩ rfl rfl rfl rfl ?_
  clear hit hlm hw1
  have hC : (B ++ (tlab k ++ [10])).length ≤ 9100 := by
   rw [List.length_append]
   unfold tlab
   simp only [List.length_append, List.length_cons, List.length_nil]
   omega
  generalize B ++ (tlab k ++ [10]) = C at *
  obtain ⟨n, rfl⟩ : ∃ n : Nat, v = n := ⟨v.toNat, by omega⟩
  rw [show (n : Int).toNat = n from by omega] at hsu
  repeat (first | refine jS ?_ | refine jD ?_ | refine jB ?_)
  refine jfin 6 [4, 16, 17, 18, 36, 37] true rfl rfl rfl (by show β0.length ≤ 6; rw [hβ]; exact (by decide : 4 ≤ 6)) ?_
  refine jloop 6 (fun j : Nat => j ≤ n) [4, 16, 17, 18, 36, 37] (fun j => [.ptr 4 0, .sl (ts.map iv), .v (.int .i64 ((ts.map iv).length : Int)), .v (.int .i64 (k : Int)), .v (.int .i64 (n : Int)), .v (.int .i64 (j : Int))])
   (fun j => [g.a, g.b, g.c, g.d, .box 86 [.ptr 4 0, .arr 5 ((C ++ ltx (List.replicate j turnC).flatten).length + 1)], .arr ((C ++ ltx (List.replicate j turnC).flatten).length + 1) 5 1 ((C ++ ltx (List.replicate j turnC).flatten).map encB)]) (fun j => n - j) 0 (by show β0.length ≤ 6; rw [hβ]; exact (by decide : 4 ≤ 6)) (Nat.zero_le _) rfl ?_ (fun j hj => ?_)
  ·rw [show C ++ ltx (List.replicate 0 turnC).flatten = C by simp [ltx]]; rfl
  repeat (first | refine jS ?_ | refine jD ?_ | refine jB ?_)
  refine jc rfl rfl rfl (fun h => ?_) (fun h => ?_)
  ·have h := of_decide_eq_true h
   have hj2 : j < n := by omega
   have hix : IntKind.i64.wrap ((j : Int) + 1) = ((j + 1 : Nat) : Int) := by rw [wrap_id (by omega) (by omega)]; rfl
   have hT : (C ++ ltx (List.replicate j turnC).flatten).length ≤ 20000 := by
    rw [List.length_append, rep_len]
    have h2 : (ltx turnC).length ≤ 103 := by decide
    have := Nat.mul_le_mul (show j ≤ 9 by omega) h2
    omega
   have hst : (C ++ ltx (List.replicate j turnC).flatten) ++ turnT = C ++ ltx (List.replicate (j + 1) turnC).flatten := by rw [List.append_assoc, repT]
   have hw2 := wstr_ok true (C ++ ltx (List.replicate j turnC).flatten) turnT (by decide) (Nat.le_trans (Nat.add_le_add hT (show turnT.length ≤ 200 by decide)) (by decide))
   rw [hst] at hw2
   generalize hD2 : C ++ ltx (List.replicate (j + 1) turnC).flatten = D2 at *
   generalize C ++ ltx (List.replicate j turnC).flatten = D at *
   unfold bld bldH adr at hw2
   repeat (first | refine jS ?_ | refine jD ?_ | refine jB ?_ | refine jV htn ?_)
   refine jb [4,5] hw2 rfl rfl rfl ⟨rfl, rfl, rfl, rfl, rfl, rfl⟩ rfl rfl rfl rfl ?_
   repeat (first | refine jS ?_ | refine jD ?_ | refine jB ?_)
   refine jnext (j + 1) hj2 (by omega) rfl rfl rfl ?_ ?_
   ·rw [hix]
   ·rw [hD2]; rfl
  ·have h := of_decide_eq_false h
   have : j = n := by omega
   subst this
   have hT : (C ++ ltx (List.replicate j turnC).flatten).length ≤ 20000 := by
    rw [List.length_append, rep_len]
    have h2 : (ltx turnC).length ≤ 103 := by decide
    have := Nat.mul_le_mul (show j ≤ 9 by omega) h2
    omega
   generalize C ++ ltx (List.replicate j turnC).flatten = D at *
   have hw3 := wstr_ok true D haltT1 (by decide) (Nat.le_trans (Nat.add_le_add hT (show haltT1.length ≤ 200 by decide)) (by decide))
   unfold bld bldH adr at hw3
   unfold kH at hhl
   repeat (first | refine jS ?_ | refine jD ?_ | refine jB ?_ | refine jw hhl rfl rfl rfl rfl rfl rfl ?_)
   refine jb [4,5] hw3 rfl rfl rfl ⟨rfl, rfl, rfl, rfl, rfl, rfl⟩ rfl rfl rfl rfl ?_
   repeat (first | refine jS ?_ | refine jD ?_ | refine jB ?_)
   refine jnext (k + 1) ⟨hk2, hok2⟩ (by omega) rfl rfl rfl ?_ ?_
   ·rw [hidx]
   ·rw [hsu]; rfl
 ·have h := of_decide_eq_false h
  rw [List.length_map] at h
  have : k = ts.length := by omega
  subst this
  have hB := hlen ts.length hk (allB hok)
  rw [List.take_length] at hok
  have hT : turnsOk ts = true := by
   unfold turnsOk
   rw [hok, Bool.true_and]
   exact inn_iff.2 ⟨by omega, by omega⟩
  rw [hT]
  simp only [cond_true]
  have hne : spP ts ts.length ≠ [] := by unfold spP; simp [spT]
  have hs := str_ok true (spP ts ts.length) hne (by omega)
  generalize spP ts ts.length = B at *
  unfold bld bldH adr at hs
  repeat (first | refine jS ?_ | refine jD ?_ | refine jB ?_)
  refine jb [4,5] hs rfl rfl rfl ⟨rfl, rfl, rfl, rfl, rfl, rfl⟩ rfl rfl rfl rfl ?_
  repeat (first | refine jS ?_ | refine jD ?_ | refine jB ?_)
  exact jret [] true rfl rfl rfl ⟨rfl, rfl⟩
theorem sprog_ok (g : Gl) (ts : List Int) (hl : ts.length ≤ 1000000) : ACalls Tryz.prog 51 [ivs ts] (gls g) (one (.tup [sv (progT ts).1, iv (progT ts).2]) (gls g)) := by
 by_cases h1 : 1 ≤ ts.length
 ·by_cases h8 : ts.length ≤ 8
  ·exact sprog_mid g ts h1 h8
  ·have f1 : decide (((ts.map iv).length : Int) < 1) = false := by rw [List.length_map]; exact decide_eq_false (by omega)
   have f2 : decide (((ts.map iv).length : Int) > 8) = true := by rw [List.length_map]; exact decide_eq_true (by omega)
   have hT : progT ts = ([], 2) := by
    unfold progT turnsOk
    rw [show inn (ts.length : Int) 1 8 = false from by cases e : inn (ts.length : Int) 1 8 with
     | false => rfl
     | true => have := (inn_iff.1 e).2; omega, Bool.and_false]; rfl
   rw [hT]
   unfold ivs gls
   refine jcalls Tryz.func51 rfl (by kernel_rfl) Tryz.ntmps51 rfl rfl (fun w0 β0 ext hβ => ?_)
   repeat (first | refine jS ?_ | refine jD ?_ | refine jB ?_)
   rw [f1]
   repeat (first | refine jS ?_ | refine jD ?_ | refine jB ?_)
   rw [f2]
   repeat (first | refine jS ?_ | refine jD ?_ | refine jB ?_)
   exact jret [] true rfl rfl rfl ⟨rfl, rfl⟩
 ·have f1 : decide (((ts.map iv).length : Int) < 1) = true := by rw [List.length_map]; exact decide_eq_true (by omega)
  have hT : progT ts = ([], 2) := by
   unfold progT turnsOk
   rw [show inn (ts.length : Int) 1 8 = false from by cases e : inn (ts.length : Int) 1 8 with
    | false => rfl
    | true => have := (inn_iff.1 e).1; omega, Bool.and_false]; rfl
  rw [hT]
  unfold ivs gls
  refine jcalls Tryz.func51 rfl (by kernel_rfl) Tryz.ntmps51 rfl rfl (fun w0 β0 ext hβ => ?_)
  repeat (first | refine jS ?_ | refine jD ?_ | refine jB ?_)
  rw [f1]
  repeat (first | refine jS ?_ | refine jD ?_ | refine jB ?_)
  exact jret [] true rfl rfl rfl ⟨rfl, rfl⟩
theorem turnsOk_iff {ts : List Int} : turnsOk ts = true ↔ (∀ n ∈ ts, 0 ≤ n ∧ n ≤ 9) ∧ 1 ≤ ts.length ∧ ts.length ≤ 8 := by
 unfold turnsOk
 rw [Bool.and_eq_true, List.all_eq_true, inn_iff]
 constructor
 ·rintro ⟨h1, h2, h3⟩
  exact ⟨fun n hn => inn_iff.1 (h1 n hn), by omega, by omega⟩
 ·rintro ⟨h1, h2, h3⟩
  exact ⟨fun n hn => inn_iff.2 (h1 n hn), by omega, by omega⟩
end Go.AL
end
