/-
  Part 11 of the proof texts: the program logic over the model, then the contracts of the functions that the laws reach. No conditions.
-/
import Derived.Test.YtplofnhnhfiokaaGreatDoorQ10
set_option linter.unusedVariables false
set_option linter.unusedSimpArgs false
set_option maxHeartbeats 2000000
section
set_option maxRecDepth 100000
namespace Go.AL
open Go Go.Proofs
attribute [local irreducible] J
theorem rsame_ints (l : List (Int)) (hl : l.length ≤ 1000000) : ACalls Tryz.prog 64 [.sl (l.map iv), .sl (l.map iv)] [] (one (bv true) []) := by
 refine jcalls Tryz.func64 rfl (by kernel_rfl) Tryz.ntmps64 rfl rfl (fun w0 β0 ext hβ => ?_)
 repeat (first | refine jS ?_ | refine jD ?_ | refine jB ?_)
 refine jc rfl rfl rfl (fun h => absurd h (by simp)) (fun h => ?_)
 repeat (first | refine jS ?_ | refine jD ?_ | refine jB ?_)
 refine jloopI (fun i : Nat => i ≤ l.length) [0, 1, 12, 13] (fun i => [.sl (l.map iv), .sl (l.map iv), .v (.int .i64 ((l.map iv).length : Int)), .v (.int .i64 (i : Int))]) (fun _ => []) (fun i => l.length - i) 0 (Nat.zero_le _) rfl rfl (fun i hi => ?_)
 repeat (first | refine jS ?_ | refine jD ?_ | refine jB ?_)
 refine jc rfl rfl rfl (fun h => ?_) (fun h => ?_)
 ·have h := of_decide_eq_true h
  rw [List.length_map] at h
  have hi1 : i < l.length := by omega
  have w1 := idx_next hi1 (by omega)
  repeat (first | refine jS ?_ | refine jD ?_ | refine jB ?_ | refine jo rfl rfl (index_at rfl rfl rfl rfl rfl rfl rfl rfl (Int.natCast_nonneg i) h) rfl rfl ?_)
  refine jc rfl rfl rfl (fun h => absurd h (by simp)) (fun h => ?_)
  repeat (first | refine jS ?_ | refine jD ?_ | refine jB ?_)
  refine jnextI (i + 1) hi1 ?_ rfl (by omega)
  show some _ = some _
  rw [w1]
 ·repeat (first | refine jS ?_ | refine jD ?_ | refine jB ?_)
  exact jR
theorem rsame_puts (l : List (Wput)) (hl : l.length ≤ 1000000) : ACalls Tryz.prog 96 [.sl (l.map encPut), .sl (l.map encPut)] [] (one (bv true) []) := by
 refine jcalls Tryz.func96 rfl (by kernel_rfl) Tryz.ntmps96 rfl rfl (fun w0 β0 ext hβ => ?_)
 repeat (first | refine jS ?_ | refine jD ?_ | refine jB ?_)
 refine jc rfl rfl rfl (fun h => absurd h (by simp)) (fun h => ?_)
 repeat (first | refine jS ?_ | refine jD ?_ | refine jB ?_)
 refine jloopI (fun i : Nat => i ≤ l.length) [0, 1, 12, 13] (fun i => [.sl (l.map encPut), .sl (l.map encPut), .v (.int .i64 ((l.map encPut).length : Int)), .v (.int .i64 (i : Int))]) (fun _ => []) (fun i => l.length - i) 0 (Nat.zero_le _) rfl rfl (fun i hi => ?_)
 repeat (first | refine jS ?_ | refine jD ?_ | refine jB ?_)
 refine jc rfl rfl rfl (fun h => ?_) (fun h => ?_)
 ·have h := of_decide_eq_true h
  rw [List.length_map] at h
  have hi1 : i < l.length := by omega
  have w1 := idx_next hi1 (by omega)
  have hx : encPut (at' l (i : Int)) = .agg (intsA [(at' l (i : Int)).loc, (at' l (i : Int)).val]) := rfl
  repeat (first | refine jS ?_ | refine jD ?_ | refine jB ?_ | refine jo rfl rfl (index_at rfl rfl rfl rfl rfl rfl rfl rfl (Int.natCast_nonneg i) h) rfl rfl ?_ | refine jo rfl rfl (eq_intsR (xs := [(at' l (i : Int)).loc, (at' l (i : Int)).val]) (ys := [(at' l (i : Int)).loc, (at' l (i : Int)).val]) (Or.inr rfl) rfl rfl rfl rfl rfl rfl (by kernel_rfl) (by kernel_rfl)) rfl rfl ?_)
  refine jc rfl rfl rfl (fun h => absurd h (by simp)) (fun h => ?_)
  repeat (first | refine jS ?_ | refine jD ?_ | refine jB ?_)
  refine jnextI (i + 1) hi1 ?_ rfl (by omega)
  show some _ = some _
  rw [w1]
 ·repeat (first | refine jS ?_ | refine jD ?_ | refine jB ?_)
  exact jR
theorem rsame_evts (l : List (Evt)) (hl : l.length ≤ 1000000) : ACalls Tryz.prog 53 [.sl (l.map encEvt), .sl (l.map encEvt)] [] (one (bv true) []) := by
 refine jcalls Tryz.func53 rfl (by kernel_rfl) Tryz.ntmps53 rfl rfl (fun w0 β0 ext hβ => ?_)
 repeat (first | refine jS ?_ | refine jD ?_ | refine jB ?_)
 refine jc rfl rfl rfl (fun h => absurd h (by simp)) (fun h => ?_)
 repeat (first | refine jS ?_ | refine jD ?_ | refine jB ?_)
 refine jloopI (fun i : Nat => i ≤ l.length) [0, 1, 12, 13] (fun i => [.sl (l.map encEvt), .sl (l.map encEvt), .v (.int .i64 ((l.map encEvt).length : Int)), .v (.int .i64 (i : Int))]) (fun _ => []) (fun i => l.length - i) 0 (Nat.zero_le _) rfl rfl (fun i hi => ?_)
 repeat (first | refine jS ?_ | refine jD ?_ | refine jB ?_)
 refine jc rfl rfl rfl (fun h => ?_) (fun h => ?_)
 ·have h := of_decide_eq_true h
  rw [List.length_map] at h
  have hi1 : i < l.length := by omega
  have w1 := idx_next hi1 (by omega)
  have hx : encEvt (at' l (i : Int)) = .agg (intsA [(at' l (i : Int)).kind, (at' l (i : Int)).who, (g0 (at' l (i : Int)).words 0), (g0 (at' l (i : Int)).words 1), (g0 (at' l (i : Int)).words 2), (g0 (at' l (i : Int)).words 3)]) := rfl
  repeat (first | refine jS ?_ | refine jD ?_ | refine jB ?_ | refine jo rfl rfl (index_at rfl rfl rfl rfl rfl rfl rfl rfl (Int.natCast_nonneg i) h) rfl rfl ?_ | refine jo rfl rfl (eq_intsR (xs := [(at' l (i : Int)).kind, (at' l (i : Int)).who, (g0 (at' l (i : Int)).words 0), (g0 (at' l (i : Int)).words 1), (g0 (at' l (i : Int)).words 2), (g0 (at' l (i : Int)).words 3)]) (ys := [(at' l (i : Int)).kind, (at' l (i : Int)).who, (g0 (at' l (i : Int)).words 0), (g0 (at' l (i : Int)).words 1), (g0 (at' l (i : Int)).words 2), (g0 (at' l (i : Int)).words 3)]) (Or.inr rfl) rfl rfl rfl rfl rfl rfl (by kernel_rfl) (by kernel_rfl)) rfl rfl ?_)
  refine jc rfl rfl rfl (fun h => absurd h (by simp)) (fun h => ?_)
  repeat (first | refine jS ?_ | refine jD ?_ | refine jB ?_)
  refine jnextI (i + 1) hi1 ?_ rfl (by omega)
  show some _ = some _
  rw [w1]
 ·repeat (first | refine jS ?_ | refine jD ?_ | refine jB ?_)
  exact jR
theorem rsame_mem (m : Mem) (h1 : m.words.length ≤ 1000000) (h2 : m.tags.length ≤ 1000000) : ACalls Tryz.prog 20 [encMem m, encMem m] [] (one (bv true) []) := by
 have h1 := rsame_ints m.words h1
 have h2 := rsame_ints m.tags h2
 unfold encMem mCells ivs at *
 refine jcalls Tryz.func20 rfl (by kernel_rfl) Tryz.ntmps20 rfl rfl (fun w0 β0 ext hβ => ?_)
 repeat (first | refine jS ?_ | refine jD ?_ | refine jB ?_ | refine jV h1 ?_ | refine jV h2 ?_)
 exact jR
theorem rsame_tso (t : Tso) (h : TsSz t) : ACalls Tryz.prog 52 [encTso t, encTso t] [] (one (bv true) []) := by
 have h1 := rsame_mem t.mem h.words h.tags
 have h2 := fun b hb => rsame_puts b (h.puts b hb)
 have hbl := h.bufs
 unfold encMem mCells ivs at h1
 unfold encTso tCells ivs at *
 refine jcalls Tryz.func52 rfl (by kernel_rfl) Tryz.ntmps52 rfl rfl (fun w0 β0 ext hβ => ?_)
 repeat (first | refine jS ?_ | refine jD ?_ | refine jB ?_ | refine jV h1 ?_)
 rw [show (t.depth != t.depth) = false from by simp]
 repeat (first | refine jS ?_ | refine jD ?_ | refine jB ?_)
 refine jc rfl rfl rfl (fun h => absurd h (by simp)) (fun h => ?_)
 repeat (first | refine jS ?_ | refine jD ?_ | refine jB ?_)
 refine jloopI (fun i : Nat => i ≤ t.bufs.length) [2, 3, 30, 31] (fun i => [.ptr 0 0, .ptr 1 0, .v (.int .i64 ((t.bufs.map encBuf).length : Int)), .v (.int .i64 (i : Int))]) (fun _ => _) (fun i => t.bufs.length - i) 0 (Nat.zero_le _) rfl rfl (fun i hi => ?_)
 repeat (first | refine jS ?_ | refine jD ?_ | refine jB ?_)
 refine jc rfl rfl rfl (fun h => ?_) (fun h => ?_)
 ·have h := of_decide_eq_true h
  rw [List.length_map] at h
  have hi1 : i < t.bufs.length := by omega
  have w1 := idx_next hi1 (by omega)
  have h2 := h2 _ (at_mem hi1)
  repeat (first | refine jS ?_ | refine jD ?_ | refine jB ?_ | refine jo rfl rfl (index_at rfl rfl rfl rfl rfl rfl rfl rfl (Int.natCast_nonneg i) h) rfl rfl ?_ | refine jV h2 ?_)
  refine jnextI (i + 1) hi1 ?_ rfl (by omega)
  show some _ = some _
  rw [w1]
 ·repeat (first | refine jS ?_ | refine jD ?_ | refine jB ?_)
  exact jR
theorem rsame_thr (t : Thr) (h1 : t.frames.length ≤ 1000000) (h2 : t.left.length ≤ 1000000) : ACalls Tryz.prog 50 [encThr t, encThr t] [] (one (bv true) []) := by
 have hli := rsame_ints t.left h2
 rw [encThr_agg]
 refine jcalls Tryz.func50 rfl (by kernel_rfl) Tryz.ntmps50 rfl rfl (fun w0 β0 ext hβ => ?_)
 repeat (first | refine jS ?_ | refine jD ?_ | refine jB ?_)
 rw [show (t.pc != t.pc) = false from by simp]
 repeat (first | refine jS ?_ | refine jD ?_ | refine jB ?_ | refine jo rfl rfl (eq_intsR (xs := [g0 t.regs 0, g0 t.regs 1, g0 t.regs 2, g0 t.regs 3, g0 t.regs 4, g0 t.regs 5, g0 t.regs 6, g0 t.regs 7]) (ys := [g0 t.regs 0, g0 t.regs 1, g0 t.regs 2, g0 t.regs 3, g0 t.regs 4, g0 t.regs 5, g0 t.regs 6, g0 t.regs 7]) (Or.inr rfl) rfl rfl rfl rfl rfl rfl (by kernel_rfl) (by kernel_rfl)) rfl rfl ?_)
 rw [show (if (BinOp.neq = BinOp.eql) then decide ([g0 t.regs 0, g0 t.regs 1, g0 t.regs 2, g0 t.regs 3, g0 t.regs 4, g0 t.regs 5, g0 t.regs 6, g0 t.regs 7] = [g0 t.regs 0, g0 t.regs 1, g0 t.regs 2, g0 t.regs 3, g0 t.regs 4, g0 t.regs 5, g0 t.regs 6, g0 t.regs 7]) else !decide ([g0 t.regs 0, g0 t.regs 1, g0 t.regs 2, g0 t.regs 3, g0 t.regs 4, g0 t.regs 5, g0 t.regs 6, g0 t.regs 7] = [g0 t.regs 0, g0 t.regs 1, g0 t.regs 2, g0 t.regs 3, g0 t.regs 4, g0 t.regs 5, g0 t.regs 6, g0 t.regs 7])) = false from by simp]
 repeat (first | refine jS ?_ | refine jD ?_ | refine jB ?_)
 rw [show (t.state != t.state) = false from by simp]
 repeat (first | refine jS ?_ | refine jD ?_ | refine jB ?_)
 rw [show (t.fault != t.fault) = false from by simp]
 repeat (first | refine jS ?_ | refine jD ?_ | refine jB ?_)
 refine jc rfl rfl rfl (fun h => absurd h (by simp)) (fun h => ?_)
 repeat (first | refine jS ?_ | refine jD ?_ | refine jB ?_)
 refine jloopI (fun i : Nat => i ≤ t.frames.length) [2, 3, 43, 44] (fun i => [.ptr 0 0, .ptr 1 0, .v (.int .i64 ((t.frames.map encFrm).length : Int)), .v (.int .i64 (i : Int))]) (fun _ => _) (fun i => t.frames.length - i) 0 (Nat.zero_le _) rfl rfl (fun i hi => ?_)
 repeat (first | refine jS ?_ | refine jD ?_ | refine jB ?_)
 refine jc rfl rfl rfl (fun h => ?_) (fun h => ?_)
 ·have h := of_decide_eq_true h
  rw [List.length_map] at h
  have hi1 : i < t.frames.length := by omega
  have w1 := idx_next hi1 (by omega)
  have hx : encFrm (at' t.frames (i : Int)) = .agg (intsA [(at' t.frames (i : Int)).back, g0 (at' t.frames (i : Int)).kept 0, g0 (at' t.frames (i : Int)).kept 1, g0 (at' t.frames (i : Int)).kept 2, g0 (at' t.frames (i : Int)).kept 3]) := rfl
  repeat (first | refine jS ?_ | refine jD ?_ | refine jB ?_ | refine jo rfl rfl (index_at rfl rfl rfl rfl rfl rfl rfl rfl (Int.natCast_nonneg i) h) rfl rfl ?_ | refine jo rfl rfl (eq_intsR (xs := [(at' t.frames (i : Int)).back, g0 (at' t.frames (i : Int)).kept 0, g0 (at' t.frames (i : Int)).kept 1, g0 (at' t.frames (i : Int)).kept 2, g0 (at' t.frames (i : Int)).kept 3]) (ys := [(at' t.frames (i : Int)).back, g0 (at' t.frames (i : Int)).kept 0, g0 (at' t.frames (i : Int)).kept 1, g0 (at' t.frames (i : Int)).kept 2, g0 (at' t.frames (i : Int)).kept 3]) (Or.inr rfl) rfl rfl rfl rfl rfl rfl (by kernel_rfl) (by kernel_rfl)) rfl rfl ?_)
  refine jc rfl rfl rfl (fun h => absurd h (by simp)) (fun h => ?_)
  repeat (first | refine jS ?_ | refine jD ?_ | refine jB ?_)
  refine jnextI (i + 1) hi1 ?_ rfl (by omega)
  show some _ = some _
  rw [w1]
 ·repeat (first | refine jS ?_ | refine jD ?_ | refine jB ?_ | refine jw hli rfl rfl rfl rfl rfl rfl ?_)
  exact jR
structure WdS (w : Wd) : Prop where
 sz : WdSz w
 evs : w.evs.length ≤ 1000000
theorem rsame_ok (w : Wd) (h : WdSz w) (he : w.evs.length ≤ 1000000) : ACalls Tryz.prog 15 [encWd w, encWd w] [] (one (bv true) []) := by
 have h1 := same_ok w.code h.code
 have h2 := rsame_tso w.tso h.tso
 have h3 := fun t ht => rsame_thr t (h.each t ht).1 (h.each t ht).2
 have h4 := rsame_evts w.evs he
 have hl := h.thr
 unfold encIs at h1
 unfold encTso tCells ivs at h2
 unfold encWd wCells ivs at *
 refine jcalls Tryz.func15 rfl (by kernel_rfl) Tryz.ntmps15 rfl rfl (fun w0 β0 ext hβ => ?_)
 repeat (first | refine jS ?_ | refine jD ?_ | refine jB ?_)
 refine jc rfl rfl rfl (fun h => absurd h (by simp)) (fun h => ?_)
 repeat (first | refine jS ?_ | refine jD ?_ | refine jB ?_)
 refine jloopI (fun i : Nat => i ≤ w.thr.length) [2, 3, 15, 16] (fun i => [.ptr 0 0, .ptr 1 0, .v (.int .i64 ((w.thr.map encThr).length : Int)), .v (.int .i64 (i : Int))]) (fun _ => _) (fun i => w.thr.length - i) 0 (Nat.zero_le _) rfl rfl (fun i hi => ?_)
 repeat (first | refine jS ?_ | refine jD ?_ | refine jB ?_)
 refine jc rfl rfl rfl (fun h => ?_) (fun h => ?_)
 ·have h := of_decide_eq_true h
  rw [List.length_map] at h
  have hi1 : i < w.thr.length := by omega
  have w1 := idx_next hi1 (by omega)
  have h3 := h3 _ (at_mem hi1)
  repeat (first | refine jS ?_ | refine jD ?_ | refine jB ?_ | refine jo rfl rfl (index_at rfl rfl rfl rfl rfl rfl rfl rfl (Int.natCast_nonneg i) h) rfl rfl ?_ | refine jV h3 ?_)
  refine jnextI (i + 1) hi1 ?_ rfl (by omega)
  show some _ = some _
  rw [w1]
 ·repeat (first | refine jS ?_ | refine jD ?_ | refine jB ?_ | refine jV h1 ?_ | refine jV h2 ?_ | refine jV h4 ?_)
  exact jR
end Go.AL
end
section
set_option maxRecDepth 100000
namespace Go.AL
open Go Go.Proofs
attribute [local irreducible] J
end Go.AL
namespace Go.AL
open Go Go.Proofs
attribute [local irreducible] J
end Go.AL
end
section
set_option maxRecDepth 100000
namespace Go.AL
open Go Go.Proofs
theorem slf_one {x y : AVal} (h : ∀ (c : Ctx) u, Rel c x u → Rel c y u) (c : Ctx) (u : Value) (hr : Rel c (.slf [x]) u) : Rel c (.slf [y]) u := by
 obtain ⟨A, es, h1, h2, ⟨u0, r1, r2, r3⟩, _⟩ := hr
 exact ⟨A, es, h1, fun _ => h2 (by simp), ⟨u0, h _ _ r1, r2, r3⟩, trivial⟩
attribute [local irreducible] J
theorem rmright_ok (m : Mem) (hw : m.words.length ≤ 1000000) (ht : m.tags.length ≤ 1000000) : ACalls Tryz.prog 13 [encMem m] [] (one (bv (mRight m)) []) := by
 obtain ⟨ws, ts⟩ := m
 simp only at hw ht
 have f1 : decide (((ws.map iv).length : Int) < 1) = !decide (1 ≤ ws.length) := by rw [List.length_map]; exact dec_not (by omega)
 have f2 : decide (((ws.map iv).length : Int) > 160) = !decide (ws.length ≤ 160) := by rw [List.length_map]; exact dec_not (by omega)
 have f3 : (((ts.map iv).length : Int) != ((ws.map iv).length : Int)) = !decide (ts.length = ws.length) := by rw [List.length_map, List.length_map, int_bne]; congr 1; exact decide_eq_decide.2 (by omega)
 unfold encMem mCells ivs mRight
 simp only
 cases b1 : decide (1 ≤ ws.length) with
 | false =>
  rw [b1] at f1
  refine jcalls Tryz.func13 rfl (by kernel_rfl) Tryz.ntmps13 rfl rfl (fun w0 β0 ext hβ => ?_)
  repeat (first | refine jS ?_ | refine jD ?_ | refine jB ?_)
  rw [f1]
  repeat (first | refine jS ?_ | refine jD ?_ | refine jB ?_)
  exact jR
 | true =>
  rw [b1] at f1
  cases b2 : decide (ws.length ≤ 160) with
  | false =>
   rw [b2] at f2
   refine jcalls Tryz.func13 rfl (by kernel_rfl) Tryz.ntmps13 rfl rfl (fun w0 β0 ext hβ => ?_)
   repeat (first | refine jS ?_ | refine jD ?_ | refine jB ?_)
   rw [f1]
   repeat (first | refine jS ?_ | refine jD ?_ | refine jB ?_)
   rw [f2]
   repeat (first | refine jS ?_ | refine jD ?_ | refine jB ?_)
   exact jR
  | true =>
   rw [b2] at f2
   cases b3 : decide (ts.length = ws.length) with
   | false =>
    rw [b3] at f3
    refine jcalls Tryz.func13 rfl (by kernel_rfl) Tryz.ntmps13 rfl rfl (fun w0 β0 ext hβ => ?_)
    repeat (first | refine jS ?_ | refine jD ?_ | refine jB ?_)
    rw [f1]
    repeat (first | refine jS ?_ | refine jD ?_ | refine jB ?_)
    rw [f2]
    repeat (first | refine jS ?_ | refine jD ?_ | refine jB ?_)
    rw [f3]
    repeat (first | refine jS ?_ | refine jD ?_ | refine jB ?_)
    exact jR
   | true =>
    rw [b3] at f3
    have hlen : ts.length = ws.length := of_decide_eq_true b3
    obtain ⟨hz1, hz2⟩ := zipAll (p := tagOk) hlen
    refine jcalls Tryz.func13 rfl (by kernel_rfl) Tryz.ntmps13 rfl rfl (fun w0 β0 ext hβ => ?_)
    repeat (first | refine jS ?_ | refine jD ?_ | refine jB ?_)
    rw [f1]
    repeat (first | refine jS ?_ | refine jD ?_ | refine jB ?_)
    rw [f2]
    repeat (first | refine jS ?_ | refine jD ?_ | refine jB ?_)
    rw [f3]
    repeat (first | refine jS ?_ | refine jD ?_ | refine jB ?_)
    refine jloopI (fun k : Nat => k ≤ ts.length ∧ ∀ q, q < k → tagOk (at' ts (q : Int)) (at' ws (q : Int)) = true) [1, 2, 25, 26, 27] (fun k => [.ptr 0 0, bv false, .sl (ts.map iv), .v (.int .i64 ((ts.map iv).length : Int)), .v (.int .i64 (k : Int))])
     (fun _ => [.box 25 [.sl (ws.map iv), .sl (ts.map iv)]]) (fun k => ts.length - k) 0 ⟨Nat.zero_le _, fun q h => absurd h (by omega)⟩ rfl rfl (fun k hk => ?_)
    obtain ⟨hk, hok⟩ := hk
    repeat (first | refine jS ?_ | refine jD ?_ | refine jB ?_)
    refine jc rfl rfl rfl (fun h => ?_) (fun h => ?_)
    ·have h := of_decide_eq_true h
     rw [List.length_map] at h
     have hk2 : k < ts.length := by omega
     have hkw : (k : Int) < ws.length := by omega
     have hidx : IntKind.i64.wrap ((k : Int) + 1) = ((k + 1 : Nat) : Int) := idx_next hk2 (by omega)
     have hno := hz2 k hk2
     have hnx : tagOk (at' ts (k : Int)) (at' ws (k : Int)) = true → ∀ q, q < k + 1 → tagOk (at' ts (q : Int)) (at' ws (q : Int)) = true := fun hb q hq => by
      by_cases e : q = k
      ·subst e; exact hb
      ·exact hok q (by omega)
     repeat (first | refine jS ?_ | refine jD ?_ | refine jB ?_ | refine jo rfl rfl (index_at rfl rfl rfl rfl rfl rfl rfl rfl (Int.natCast_nonneg k) h) rfl rfl ?_)
     generalize hT : at' ts (k : Int) = T at *
     generalize hV : at' ws (k : Int) = V at *
     by_cases g1 : T < 0
     ·rw [decide_eq_true g1]
      rw [hno (by simp [tagOk]; omega)]
      repeat (first | refine jS ?_ | refine jD ?_ | refine jB ?_)
      exact jR
     ·rw [decide_eq_false g1]
      repeat (first | refine jS ?_ | refine jD ?_ | refine jB ?_)
      by_cases g2 : T > 2
      ·rw [decide_eq_true g2]
       rw [hno (by simp [tagOk]; omega)]
       repeat (first | refine jS ?_ | refine jD ?_ | refine jB ?_)
       exact jR
      ·rw [decide_eq_false g2]
       repeat (first | refine jS ?_ | refine jD ?_ | refine jB ?_)
       by_cases g3 : T = 0
       ·subst g3
        repeat (first | refine jS ?_ | refine jD ?_ | refine jB ?_ | refine jo rfl rfl (index_at rfl rfl rfl rfl rfl rfl rfl rfl (Int.natCast_nonneg k) hkw) rfl rfl ?_)
        rw [hV]
        by_cases g4 : V = 0
        ·subst g4
         repeat (first | refine jS ?_ | refine jD ?_ | refine jB ?_)
         refine jnextI (k + 1) ⟨by omega, hnx rfl⟩ ?_ rfl (by omega)
         show some _ = some _
         rw [hidx]
        ·rw [show (V != 0) = true from by rw [bne_iff_ne]; exact g4]
         rw [hno (by simp [tagOk, g4])]
         repeat (first | refine jS ?_ | refine jD ?_ | refine jB ?_)
         exact jR
       ·rw [show (T == 0) = false from by rw [beq_eq_false_iff_ne]; exact g3]
        repeat (first | refine jS ?_ | refine jD ?_ | refine jB ?_)
        refine jnextI (k + 1) ⟨by omega, hnx (by simp [tagOk]; omega)⟩ ?_ rfl (by omega)
        show some _ = some _
        rw [hidx]
    ·have h := of_decide_eq_false h
     rw [List.length_map] at h
     rw [hz1 fun q hq => hok q (by omega)]
     repeat (first | refine jS ?_ | refine jD ?_ | refine jB ?_)
     exact jR
theorem rep_succ {α : Type} (n : Nat) (x : α) : List.replicate n x ++ [x] = List.replicate (n + 1) x := by rw [List.replicate_succ']
theorem rmnew_ok (n : Nat) (hn : n ≤ 1000) : ACalls Tryz.prog 66 [iv (n : Int)] [] (one (encMem ⟨List.replicate n 0, List.replicate n 0⟩) []) := by
 unfold encMem mCells ivs
 refine jcalls Tryz.func66 rfl (by kernel_rfl) Tryz.ntmps66 rfl rfl (fun w0 β0 ext hβ => ?_)
 repeat (first | refine jadB 1 1 3 1 rfl rfl rfl rfl ?_ | refine jadB 1 0 3 1 rfl rfl rfl rfl ?_ | refine jS ?_ | refine jD ?_ | refine jB ?_)
 refine jloopI (fun q : Nat => q ≤ n) [0, 2, 3, 4] (fun q => [iv (n : Int), .ptr 0 0, .ptr 1 0, iv (q : Int)])
  (fun q => [.box 25 [.slf [], .slf []], .box 25 [.arr 3 (q + 1), .arr 2 (q + 1)], .arr (q + 1) 3 1 ((List.replicate q (0 : Int)).map iv), .arr (q + 1) 3 1 ((List.replicate q (0 : Int)).map iv)]) (fun q => n - q) 0 (Nat.zero_le _) rfl rfl (fun q hq => ?_)
 repeat (first | refine jS ?_ | refine jD ?_ | refine jB ?_)
 by_cases h : q < n
 ·rw [show decide ((q : Int) < (n : Int)) = true from decide_eq_true (by omega)]
  have hidx : IntKind.i64.wrap ((q : Int) + 1) = ((q + 1 : Nat) : Int) := by rw [wrap_id] <;> omega
  repeat (first | refine jS ?_ | refine jD ?_ | refine jB ?_)
  refine jo rfl rfl (append_enc (enc := iv) (l := List.replicate q (0 : Int)) 0 rfl rfl rfl rfl rfl rfl rfl rfl rfl rfl (fun x => ⟨rfl, rfl⟩) rfl (by rw [List.length_replicate]; omega) rfl rfl) rfl rfl ?_
  repeat (first | refine jS ?_ | refine jD ?_ | refine jB ?_)
  refine jo rfl rfl (append_enc (enc := iv) (l := List.replicate q (0 : Int)) 0 rfl rfl rfl rfl rfl rfl rfl rfl rfl rfl (fun x => ⟨rfl, rfl⟩) rfl (by rw [List.length_replicate]; omega) rfl rfl) rfl rfl ?_
  rw [rep_succ]
  repeat (first | refine jS ?_ | refine jD ?_ | refine jB ?_)
  refine jnextI (q + 1) h ?_ rfl (by omega)
  show some _ = some _
  rw [hidx]
  rfl
 ·have : q = n := by omega
  subst this
  rw [show decide ((q : Int) < (q : Int)) = false from decide_eq_false (by omega)]
  refine jc rfl rfl rfl (fun hf => absurd hf (by decide)) (fun _ => ?_)
  refine jpubB 1 0 3 rfl rfl rfl rfl rfl rfl rfl ?_
  refine jpubB 1 1 2 rfl rfl rfl rfl rfl rfl rfl ?_
  repeat (first | refine jS ?_ | refine jD ?_ | refine jB ?_)
  exact jret [] true rfl rfl rfl ⟨rfl, rfl⟩
theorem sl_nil_buf (c : Ctx) (u : Value) (h : Rel c (.slf []) u) : Rel c (encBuf []) u := sl_weak h
theorem rtnew_ok (m : Mem) (n : Nat) (d : Int) (hn : n ≤ 1000) : ACalls Tryz.prog 97 [encMem m, iv (n : Int), iv d] [] (one (encTso ⟨m, d, List.replicate n []⟩) []) := by
 unfold encTso tCells encMem mCells ivs
 refine jcalls Tryz.func97 rfl (by kernel_rfl) Tryz.ntmps97 rfl rfl (fun w0 β0 ext hβ => ?_)
 repeat (first | refine jadB 2 3 170 1 rfl rfl rfl rfl ?_ | refine jS ?_ | refine jD ?_ | refine jB ?_)
 refine jloopI (fun q : Nat => q ≤ n) [1, 3, 6, 7, 8] (fun q => [iv (n : Int), .ptr 0 0, .ptr 1 0, .ptr 2 0, iv (q : Int)])
  (fun q => [.box 25 [.sl (m.words.map iv), .sl (m.tags.map iv)], .box 29 [.slf [], .slf [], iv 0, .slf []], .box 29 [.sl (m.words.map iv), .sl (m.tags.map iv), iv d, .arr 3 (q + 1)], .arr (q + 1) 170 1 ((List.replicate q ([] : List Wput)).map encBuf)]) (fun q => n - q) 0 (Nat.zero_le _) rfl rfl (fun q hq => ?_)
 repeat (first | refine jS ?_ | refine jD ?_ | refine jB ?_)
 by_cases h : q < n
 ·rw [show decide ((q : Int) < (n : Int)) = true from decide_eq_true (by omega)]
  have hidx : IntKind.i64.wrap ((q : Int) + 1) = ((q + 1 : Nat) : Int) := by rw [wrap_id] <;> omega
  repeat (first | refine jow rfl rfl (buildB_dsem rfl) (slf_one sl_nil_buf) rfl rfl ?_ | refine jS ?_ | refine jD ?_ | refine jB ?_)
  refine jo rfl rfl (append_enc (enc := encBuf) (l := List.replicate q ([] : List Wput)) [] rfl rfl rfl rfl rfl rfl rfl rfl rfl rfl (fun x => ⟨rfl, rfl⟩) rfl (by rw [List.length_replicate]; omega) rfl rfl) rfl rfl ?_
  rw [rep_succ]
  repeat (first | refine jS ?_ | refine jD ?_ | refine jB ?_)
  refine jnextI (q + 1) h ?_ rfl (by omega)
  show some _ = some _
  rw [hidx]
  rfl
 ·have : q = n := by omega
  subst this
  rw [show decide ((q : Int) < (q : Int)) = false from decide_eq_false (by omega)]
  refine jc rfl rfl rfl (fun hf => absurd hf (by decide)) (fun _ => ?_)
  refine jpubB 2 3 3 rfl rfl rfl rfl rfl rfl rfl ?_
  repeat (first | refine jS ?_ | refine jD ?_ | refine jB ?_)
  exact jret [] true rfl rfl rfl ⟨rfl, rfl⟩
theorem rwnew_ok (code : List Ins) (st : List Int) (m : Mem) (d : Int) (hs : st.length ≤ 1000) : ACalls Tryz.prog 54 [encIs code, ivs st, encMem m, iv d] [] (one (encWd (newOk code st m d)) []) := by
 have h3 := rtnew_ok m st.length d hs
 have hlm : ((st.map iv).length : Int) = (st.length : Int) := by rw [List.length_map]
 have he : (st.map thrP).map encThr = st.map fun a => encThr (thrP a) := by rw [List.map_map]; rfl
 unfold newOk
 unfold encWd wCells encTso tCells encIs encMem mCells at *
 unfold ivs at *
 simp only
 rw [he]
 refine jcalls Tryz.func54 rfl (by kernel_rfl) Tryz.ntmps54 rfl rfl (fun w0 β0 ext hβ => ?_)
 repeat (first | refine jS ?_ | refine jD ?_ | refine jB ?_)
 rw [hlm]
 repeat (first | refine jadB 2 5 53 13 rfl rfl rfl rfl ?_ | refine jS ?_ | refine jD ?_ | refine jB ?_ | refine jV h3 ?_)
 refine jloopI (fun q : Nat => q ≤ st.length) [8, 9, 19, 20, 21] (fun q => [.ptr 1 0, .ptr 2 0, .sl (st.map iv), .v (.int .i64 ((st.map iv).length : Int)), .v (.int .i64 (q : Int))])
  (fun q => [.box 25 [.sl (m.words.map iv), .sl (m.tags.map iv)], .box 33 [.slf [], .slf [], .slf [], iv 0, .slf [], .slf [], .slf []],
   .box 33 [.sl (code.map encIns), .sl (m.words.map iv), .sl (m.tags.map iv), iv d, .sl ((List.replicate st.length ([] : List Wput)).map encBuf), .arr 3 (q + 1), .slf []], .arr (q + 1) 53 13 ((st.take q).map fun a => encThr (thrP a))]) (fun q => st.length - q) 0 (Nat.zero_le _) rfl rfl (fun q hq => ?_)
 repeat (first | refine jS ?_ | refine jD ?_ | refine jB ?_)
 refine jc rfl rfl rfl (fun h => ?_) (fun h => ?_)
 ·have h := of_decide_eq_true h
  rw [List.length_map] at h
  have hq2 : q < st.length := by omega
  have hidx : IntKind.i64.wrap ((q : Int) + 1) = ((q + 1 : Nat) : Int) := idx_next hq2 (by omega)
  have htk : (st.take q) ++ [at' st (q : Int)] = st.take (q + 1) := by rw [at_nat st q hq2, List.take_add_one, List.getElem?_eq_getElem hq2]; rfl
  have hln : (st.take q).length ≤ 1000 := by rw [List.length_take]; omega
  repeat (first | refine jow rfl rfl (readP_dsem rfl) (thr_weak _) rfl rfl ?_ | refine jS ?_ | refine jD ?_ | refine jB ?_ | refine jo rfl rfl (index_at rfl rfl rfl rfl rfl rfl rfl rfl (Int.natCast_nonneg q) h) rfl rfl ?_)
  refine jo rfl rfl (append_enc (enc := fun a => encThr (thrP a)) (l := st.take q) (at' st (q : Int)) rfl rfl rfl rfl rfl rfl rfl rfl rfl rfl (elemsP []) rfl (by omega) rfl rfl) rfl rfl ?_
  rw [htk]
  repeat (first | refine jS ?_ | refine jD ?_ | refine jB ?_)
  refine jnextI (q + 1) hq2 ?_ rfl (by omega)
  show some _ = some _
  rw [hidx]
 ·have h := of_decide_eq_false h
  rw [List.length_map] at h
  have : q = st.length := by omega
  subst this
  rw [List.take_length]
  refine jpubB 2 5 3 rfl rfl rfl rfl rfl rfl rfl ?_
  repeat (first | refine jS ?_ | refine jD ?_ | refine jB ?_)
  exact jret [] true rfl rfl rfl ⟨rfl, rfl⟩
end Go.AL
end
section
set_option maxRecDepth 100000
namespace Go.AL
open Go Go.Proofs
attribute [local irreducible] J
structure RrI (w : Wd) (m : Nat) (s : Nat × Wd) : Prop where
 le : s.1 ≤ m
 right : WdR s.2
 thr : s.2.thr.length = w.thr.length
 evs : s.2.evs.length ≤ w.evs.length + 16 * s.1
 eq : roundsW w m = ((roundsW s.2 (m - s.1)).1, s.1 + (roundsW s.2 (m - s.1)).2)
end Go.AL
end
section
set_option maxRecDepth 100000
namespace Go.AL
open Go Go.Proofs
attribute [local irreducible] J
theorem newOk_right {code : List Ins} {st : List Int} {m : Mem} {d : Int} (hc : rightC code = true) (hm : mRight m = true) (h1 : 1 ≤ st.length) (h8 : st.length ≤ 8) (hd : 0 ≤ d ∧ d ≤ 8) (hs : ∀ a ∈ st, 0 ≤ a ∧ a ≤ code.length) : WdR (newOk code st m d) := by
 have hl : code.length ≤ 1000 := by
  unfold rightC at hc
  rw [Bool.and_eq_true] at hc
  exact of_decide_eq_true hc.1
 refine ⟨hc, ⟨hm, ⟨⟨by simp [newOk]; omega, by simp [newOk]; omega⟩, hd⟩, fun b hb => ?_⟩, by simp [newOk], fun t ht => ?_⟩
 ·have hb : b ∈ List.replicate st.length ([] : List Wput) := hb
  rw [List.eq_of_mem_replicate hb]
  exact ⟨hd.1, fun p hp => absurd hp List.not_mem_nil⟩
 ·have ht : t ∈ st.map thrP := ht
  obtain ⟨a, ha, rfl⟩ := List.mem_map.1 ht
  have := hs a ha
  exact ⟨thRight_iff.2 ⟨by show 0 ≤ a ∧ a ≤ 1000; omega, Nat.zero_le _, Nat.zero_le _, fun f hf => absurd hf List.not_mem_nil, fun f hf => absurd hf List.not_mem_nil, .inl ⟨.inl rfl, rfl⟩⟩, .inl rfl⟩
def cl (L : Nat) (s : Int) : Int := (IntKind.i64.wrap (IntKind.i64.wrap (s.tmod (IntKind.i64.wrap ((L : Int) + 1)) + L) + 1)).tmod (IntKind.i64.wrap ((L : Int) + 1))
end Go.AL
end
section
set_option maxRecDepth 100000
namespace Go.AL
open Go Go.Proofs
theorem ACalls.argw {P : Program} {f : FuncId} {args args' : List AVal} {H : List AObj} {Q : Eff} (h : ACalls P f args H Q) (hr : ∀ (c : Ctx) us, RelL c args' us → RelL c args us) : ACalls P f args' H Q :=
 ⟨h.enters, fun ext w β us hI hx h0 => h.calls ext w β us hI hx (hr _ _ h0)⟩
theorem agg_weak {c : Ctx} {cs cs' : List AVal} (hr : ∀ us, RelL c cs us → RelL c cs' us) (u : Value) (h : Rel c (.agg cs) u) : Rel c (.agg cs') u := by
 obtain ⟨a, e, h⟩ := h
 exact ⟨a, e, hr _ h⟩
attribute [local irreducible] J
end Go.AL
end
section
set_option maxRecDepth 100000
namespace Go.AL
open Go Go.Proofs
attribute [local irreducible] J
def rst (s : Bs) (ls : List Bs) : List Int := ls.map fun l => (rwhere s l).1
theorem rst_take (s : Bs) (ls : List Bs) {q : Nat} (h : q < ls.length) : rst s (ls.take (q + 1)) = rst s (ls.take q) ++ [(rwhere s (at' ls (q : Int))).1] := by
 unfold rst
 rw [at_nat ls q h, List.take_add_one, List.getElem?_eq_getElem h, List.map_append]
 rfl
theorem rstarts_ok (s : Bs) (ls : List Bs) (hs : s.length ≤ 900000) (hl : ls.length ≤ 1000) (hm : ∀ l ∈ ls, l.length ≤ 1000000) (hall : ∀ l ∈ ls, (rwhere s l).2 = 0) :
  ACalls Tryz.prog 12 [sv s, .sl (ls.map sv)] [] (one (.tup [ivs (rst s ls), bv true]) []) := by
 refine jcalls Tryz.func12 rfl (by kernel_rfl) Tryz.ntmps12 rfl rfl (fun w0 β0 ext hβ => ?_)
 repeat (first | refine jad 6 3 1 rfl rfl rfl rfl ?_ | refine jS ?_ | refine jD ?_ | refine jB ?_)
 refine jloopI (fun q : Nat => q ≤ ls.length) [0, 6, 12, 13, 14] (fun q => [sv s, .arr 0 (q + 1), .sl (ls.map sv), .v (.int .i64 ((ls.map sv).length : Int)), .v (.int .i64 (q : Int))])
  (fun q => [.arr (q + 1) 3 1 ((rst s (ls.take q)).map iv)]) (fun q => ls.length - q) 0 (Nat.zero_le _) rfl rfl (fun q hq => ?_)
 repeat (first | refine jS ?_ | refine jD ?_ | refine jB ?_)
 refine jc rfl rfl rfl (fun h => ?_) (fun h => ?_)
 ·have h := of_decide_eq_true h
  rw [List.length_map] at h
  have hq2 : q < ls.length := by omega
  have hidx : IntKind.i64.wrap ((q : Int) + 1) = ((q + 1 : Nat) : Int) := idx_next hq2 (by omega)
  have htk := rst_take s ls hq2
  have hw := rwhere_ok s (at' ls (q : Int)) hs (hm _ (at_mem hq2))
  have h0 := hall _ (at_mem hq2)
  have hln : (rst s (ls.take q)).length ≤ 1000 := by unfold rst; rw [List.length_map, List.length_take]; omega
  generalize rwhere s (at' ls (q : Int)) = r at *
  obtain ⟨r1, r2⟩ := r
  simp only at h0 htk hw
  subst h0
  repeat (first | refine jS ?_ | refine jD ?_ | refine jB ?_ | refine jo rfl rfl (index_at rfl rfl rfl rfl rfl rfl rfl rfl (Int.natCast_nonneg q) h) rfl rfl ?_ | refine jV hw ?_)
  refine jo rfl rfl (append_enc (enc := iv) (l := rst s (ls.take q)) r1 rfl rfl rfl rfl rfl rfl rfl rfl rfl rfl (fun x => ⟨rfl, rfl⟩) rfl (by omega) rfl rfl) rfl rfl ?_
  rw [← htk]
  repeat (first | refine jS ?_ | refine jD ?_ | refine jB ?_)
  refine jnextI (q + 1) hq2 ?_ rfl (by omega)
  show some _ = some _
  rw [hidx]
 ·have h := of_decide_eq_false h
  rw [List.length_map] at h
  have : q = ls.length := by omega
  subst this
  rw [List.take_length]
  refine jpub 6 rfl rfl rfl rfl ?_
  repeat (first | refine jS ?_ | refine jD ?_ | refine jB ?_)
  exact jret [] true rfl rfl rfl ⟨rfl, rfl⟩
theorem rworld_ok (s : Bs) (ls : List Bs) (m : Mem) (d : Int) (hs : s.length ≤ 900000) (hl : ls.length ≤ 1000) (hm : ∀ l ∈ ls, l.length ≤ 1000000) (hall : ∀ l ∈ ls, (rwhere s l).2 = 0) :
  ACalls Tryz.prog 16 [sv s, .sl (ls.map sv), encMem m, iv d] [] (one (encWd (newOk (rparse s).1 (rst s ls) m d)) []) := by
 have h1 := rparse_ok s hs
 have h2 := rstarts_ok s ls hs hl hm hall
 have h3 := rwnew_ok (rparse s).1 (rst s ls) m d (by unfold rst; rw [List.length_map]; omega)
 generalize rst s ls = st at *
 generalize rparse s = r at *
 obtain ⟨r1, r2, r3⟩ := r
 simp only at h1 h3 ⊢
 generalize newOk r1 st m d = w at *
 unfold encIs encWd wCells encMem mCells ivs at *
 refine jcalls Tryz.func16 rfl (by kernel_rfl) Tryz.ntmps16 rfl rfl (fun w0 β0 ext hβ => ?_)
 repeat (first | refine jS ?_ | refine jD ?_ | refine jB ?_ | refine jV h1 ?_ | refine jV h2 ?_ | refine jV h3 ?_)
 exact jR
end Go.AL
end
section
set_option maxRecDepth 100000
namespace Go.AL
open Go Go.Proofs
attribute [local irreducible] J
theorem wd0_sz : WdSz wd0 := ⟨by decide, ⟨by decide, by decide, by decide, fun _ h => by cases h⟩, by decide, fun _ h => by cases h⟩
theorem rst_eq {s : Bs} (h : (rparse s).2.2 = 0) (ls : List Bs) : stAt s ls = rst s ls ∧ ((∀ l ∈ ls, (whereP s l).2 = 0) ↔ ∀ l ∈ ls, (rwhere s l).2 = 0) := by
 have e : ∀ l, whereP s l = rwhere s l := fun l => by rw [where_eq, h]; rfl
 unfold stAt rst
 simp only [e]
 exact ⟨trivial, trivial⟩
theorem newW_good {s : Bs} (h : (rparse s).2.2 = 0) (ls : List Bs) (m : Mem) (d : Int) (hm : mRight m = true) (hz : inn ls.length 1 8 = true) (hd : inn d 0 8 = true) : newW (rparse s).1 (rst s ls) m d = (newOk (rparse s).1 (rst s ls) m d, 0) := by
 unfold newW
 have hl : (rst s ls).length = ls.length := by unfold rst; rw [List.length_map]
 rw [parse_right h, hm, hl, hz, hd]
 have : ((rst s ls).all fun a => inn a 0 (rparse s).1.length) = true := List.all_eq_true.2 fun a ha => by
  unfold rst at ha
  obtain ⟨l, _, rfl⟩ := List.mem_map.1 ha
  exact inn_iff.2 (where_right h)
 rw [this]; rfl
theorem newW_size {s : Bs} (h : (rparse s).2.2 = 0) (st : List Int) (m : Mem) (d : Int) (hm : mRight m = true) (hz : (inn st.length 1 8 && inn d 0 8) = false) : newW (rparse s).1 st m d = (wd0, 2) := by
 unfold newW
 rw [parse_right h, hm, hz]; rfl
theorem newOk_r {s : Bs} (h : (rparse s).2.2 = 0) (ls : List Bs) (m : Mem) (d : Int) (hm : mRight m = true) (hz : inn ls.length 1 8 = true) (hd : inn d 0 8 = true) : WdR (newOk (rparse s).1 (rst s ls) m d) := by
 have hl : (rst s ls).length = ls.length := by unfold rst; rw [List.length_map]
 obtain ⟨z1, z2⟩ := inn_iff.1 hz
 refine newOk_right (parse_right h) hm (by omega) (by omega) (inn_iff.1 hd) fun a ha => ?_
 unfold rst at ha
 obtain ⟨l, _, rfl⟩ := List.mem_map.1 ha
 exact where_right h
end Go.AL
end
section
set_option maxRecDepth 100000
namespace Go.AL
open Go Go.Proofs
attribute [local irreducible] J
abbrev Pr := Int × Int
def encP (p : Pr) : AVal := .agg [iv p.1, iv p.2]
def encPs (l : List Pr) : AVal := .sl (l.map encP)
abbrev Mn := List (Int × Int)
def encN (m : Mn) : List (Value × Value) := m.map fun p => (.int .i64 p.1, .int .i64 p.2)
theorem encN_find (m : Mn) (a : Int) : MFind (vals (encN m)) (.int .i64 a) ((m.lookup a).map iv) := by
 induction m with
 | nil => rfl
 | cons p m ih =>
  obtain ⟨q, n⟩ := p
  by_cases h : q = a
  ·subst h
   exact .inl ⟨rfl, by simp [List.lookup, iv]⟩
  ·refine .inr ⟨fun e => h (by injection e), ?_⟩
   have : List.lookup a ((q, n) :: m) = List.lookup a m := by
    simp only [List.lookup]
    have : (a == q) = false := by simp; exact fun e => h e.symm
    rw [this]
   rw [this]
   exact ih
theorem encN_keys (m : Mn) : MKeys (.int .i64) (vals (encN m)) := by
 intro p hp
 obtain ⟨q, hq, rfl⟩ := List.mem_map.1 hp
 obtain ⟨q', _, rfl⟩ := List.mem_map.1 hq
 rfl
def cntN (m : Mn) (s : Int) : Int := (m.lookup s).getD 0
def bumpN : Mn → Int → Mn
 | [], s => [(s, 1)]
 | (k, n) :: m, s => cond (decide (k = s)) ((s, n + 1) :: m) ((k, n) :: bumpN m s)
theorem look_cons (k n s : Int) (m : Mn) : List.lookup s ((k, n) :: m) = if s = k then some n else List.lookup s m := by
 simp only [List.lookup]
 by_cases h : s = k
 ·subst h; simp
 ·have : (s == k) = false := by simpa using h
  rw [this, if_neg h]
theorem bumpN_put : ∀ (m : Mn) (s : Int), MPut (vals (encN m)) (.int .i64 s) (iv (cntN m s + 1)) (vals (encN (bumpN m s)))
 | [], s => rfl
 | (k, n) :: m, s => by
  unfold bumpN cntN
  rw [look_cons]
  by_cases h : k = s
  ·subst h
   rw [decide_eq_true rfl, if_pos rfl]
   exact .inl ⟨rfl, rfl⟩
  ·rw [decide_eq_false h, if_neg (fun e => h e.symm)]
   exact .inr ⟨fun e => h (by injection e), _, rfl, bumpN_put m s⟩
theorem bumpN_look : ∀ (m : Mn) (s x : Int), (bumpN m s).lookup x = if x = s then some (cntN m s + 1) else m.lookup x
 | [], s, x => by
  unfold bumpN cntN
  rw [look_cons]; rfl
 | (k, n) :: m, s, x => by
  unfold bumpN cntN
  rw [look_cons, look_cons]
  by_cases h : k = s
  ·subst h
   rw [decide_eq_true rfl, if_pos rfl]
   simp only [cond_true]
   rw [look_cons]
   by_cases hx : x = k
   ·rw [if_pos hx, if_pos hx]; rfl
   ·rw [if_neg hx, if_neg hx, if_neg hx]
  ·rw [decide_eq_false h, if_neg (show ¬ s = k from fun e => h e.symm)]
   simp only [cond_false]
   rw [look_cons, bumpN_look m s x]
   by_cases hx : x = k
   ·rw [if_pos hx, if_neg (show ¬ x = s from fun e => h (hx.symm.trans e)), if_pos hx]
   ·rw [if_neg hx, if_neg hx]; rfl
def has1 (l : List Pr) (i : Nat) : Bool := (l.take i).any fun q => decide (q.1 = (at' l (i : Int)).1)
def prsB (l : List Pr) : Bool := (List.range l.length).all fun i => !has1 l i
def prsOk (l : List Pr) : Bool := prsB l && decide (l.length ≤ 12)
theorem prsB_no {l : List Pr} {k : Nat} (hk : k < l.length) (h : has1 l k = true) : prsOk l = false := by
 unfold prsOk
 have : prsB l = false := by
  unfold prsB
  rw [List.all_eq_false]
  exact ⟨k, List.mem_range.2 hk, by rw [h]; decide⟩
 rw [this]; rfl
theorem prsB_yes {l : List Pr} (h : ∀ q, q < l.length → has1 l q = false) : prsOk l = decide (l.length ≤ 12) := by
 unfold prsOk
 have : prsB l = true := by
  unfold prsB
  rw [List.all_eq_true]
  intro i hi
  rw [h i (List.mem_range.1 hi)]; rfl
 rw [this]; rfl
def metP (l : List Pr) (k : Nat) : Mn := (l.take k).foldl (fun m p => bumpN m p.1) []
theorem metP_succ {l : List Pr} {k : Nat} (h : k < l.length) : metP l (k + 1) = bumpN (metP l k) (at' l (k : Int)).1 := by
 unfold metP
 rw [List.take_succ_eq_append_getElem h, List.foldl_append, at_nat l k h]; rfl
theorem metP_look {l : List Pr} : ∀ k, k ≤ l.length → (∀ q, q < k → has1 l q = false) → ∀ x, (metP l k).lookup x = if (l.take k).any (fun q => decide (q.1 = x)) = true then some 1 else none
 | 0, _, _, x => by simp [metP]
 | k + 1, hk, h, x => by
  have ih := metP_look k (by omega) (fun q hq => h q (by omega))
  have hk2 : k < l.length := by omega
  have hx := h k (by omega)
  unfold has1 at hx
  rw [metP_succ hk2, bumpN_look, List.take_succ_eq_append_getElem hk2, List.any_append, ih]
  unfold cntN
  rw [ih, hx, ← at_nat l k hk2]
  by_cases e : x = (at' l (k : Int)).1
  ·rw [if_pos e, e]
   simp
  ·rw [if_neg e]
   have : ([at' l (k : Int)].any fun q => decide (q.1 = x)) = false := by simp; exact fun e2 => e e2.symm
   rw [this, Bool.or_false]
theorem may_ok (l : List Pr) (hl : l.length ≤ 1000000) : ACalls Tryz.prog 57 [encPs l] [] (one (bv (prsOk l)) []) := by
 unfold encPs
 refine jcalls Tryz.func57 rfl (by kernel_rfl) Tryz.ntmps57 rfl rfl (fun w0 β0 ext hβ => ?_)
 repeat (first | refine jS ?_ | refine jD ?_ | refine jB ?_ | refine jo rfl rfl (map_newV) rfl rfl ?_)
 refine jfin 1 [3, 0, 7, 8, 9] true rfl rfl rfl (by show β0.length ≤ 1; rw [hβ]; decide) ?_
 refine jloop 1 (fun k : Nat => k ≤ l.length ∧ ∀ q, q < k → has1 l q = false) [3, 0, 7, 8, 9] (fun k => [.mp 0, .sl (l.map encP), .sl (l.map encP), .v (.int .i64 ((l.map encP).length : Int)), .v (.int .i64 (k : Int))])
  (fun k => [.vmap (encN (metP l k))]) (fun k => l.length - k) 0 (by show β0.length ≤ 1; rw [hβ]; decide) ⟨Nat.zero_le _, fun q h => absurd h (by omega)⟩ rfl rfl (fun k hk => ?_)
 obtain ⟨hk, hok⟩ := hk
 repeat (first | refine jS ?_ | refine jD ?_ | refine jB ?_)
 refine jc rfl rfl rfl (fun h => ?_) (fun h => ?_)
 ·have h := of_decide_eq_true h
  rw [List.length_map] at h
  have hk2 : k < l.length := by omega
  have hidx : IntKind.i64.wrap ((k : Int) + 1) = ((k + 1 : Nat) : Int) := idx_next hk2 (by omega)
  have hms := metP_succ hk2
  have hlk := metP_look k (by omega) hok (at' l (k : Int)).1
  have hb : has1 l k = (l.take k).any fun q => decide (q.1 = (at' l (k : Int)).1) := rfl
  rw [← hb] at hlk
  have hno := @prsB_no l k hk2
  have hnx : has1 l k = false → ∀ q, q < k + 1 → has1 l q = false := fun h0 q hq => by
   by_cases e : q = k
   ·subst e; exact h0
   ·exact hok q (by omega)
  clear hb
  repeat (first | refine jS ?_ | refine jD ?_ | refine jB ?_ | refine jo rfl rfl (index_at rfl rfl rfl rfl rfl rfl rfl rfl (Int.natCast_nonneg k) h) rfl rfl ?_)
  generalize at' l (k : Int) = p at *
  obtain ⟨a, b⟩ := p
  generalize metP l k = m at *
  simp only at hlk hms
  have hf := encN_find m a
  have hks := encN_keys m
  have hpu := bumpN_put m a
  have hf2 := encN_find (bumpN m a) a
  have hks2 := encN_keys (bumpN m a)
  rw [bumpN_look, if_pos rfl] at hf2
  unfold cntN at hpu hf2
  rw [hlk] at hf hpu hf2
  cases hh : has1 l k with
  | true =>
   rw [hh] at hf hpu hf2
   rw [hno hh]
   repeat (first | refine jS ?_ | refine jD ?_ | refine jB ?_ | refine jo rfl rfl (map_get rfl rfl rfl rfl rfl rfl rfl rfl rfl rfl hks hf rfl) rfl rfl ?_)
   repeat (first | refine jS ?_ | refine jD ?_ | refine jB ?_ | refine jo rfl rfl (map_put (mo' := .vmap (encN (bumpN m a))) (.inl rfl) rfl rfl rfl rfl rfl rfl rfl rfl rfl rfl hks hpu rfl) rfl rfl ?_)
   repeat (first | refine jS ?_ | refine jD ?_ | refine jB ?_ | refine jo rfl rfl (map_get rfl rfl rfl rfl rfl rfl rfl rfl rfl rfl hks2 hf2 rfl) rfl rfl ?_)
   exact jR
  | false =>
   rw [hh] at hf hpu hf2
   repeat (first | refine jS ?_ | refine jD ?_ | refine jB ?_ | refine jo rfl rfl (map_get rfl rfl rfl rfl rfl rfl rfl rfl rfl rfl hks hf rfl) rfl rfl ?_)
   repeat (first | refine jS ?_ | refine jD ?_ | refine jB ?_ | refine jo rfl rfl (map_put (mo' := .vmap (encN (bumpN m a))) (.inl rfl) rfl rfl rfl rfl rfl rfl rfl rfl rfl rfl hks hpu rfl) rfl rfl ?_)
   repeat (first | refine jS ?_ | refine jD ?_ | refine jB ?_ | refine jo rfl rfl (map_get rfl rfl rfl rfl rfl rfl rfl rfl rfl rfl hks2 hf2 rfl) rfl rfl ?_)
   refine jnext (k + 1) ⟨hk2, hnx hh⟩ (by omega) rfl rfl rfl ?_ ?_
   ·rw [hidx]
   ·rw [hms]
 ·have h := of_decide_eq_false h
  rw [List.length_map] at h
  have : k = l.length := by omega
  subst this
  rw [prsB_yes hok]
  repeat (first | refine jS ?_ | refine jD ?_ | refine jB ?_)
  rw [show decide ((((l.map encP).length : Nat) : Int) ≤ 12) = decide (l.length ≤ 12) from by rw [List.length_map]; exact decide_eq_decide.2 (by omega)]
  exact jret [] true rfl rfl rfl ⟨rfl, rfl⟩
theorem rpairs_ok (l : List Pr) (hl : l.length ≤ 1000000) : ACalls Tryz.prog 22 [encPs l] [] (one (bv (prsOk l)) []) := by
 unfold encPs
 refine jcalls Tryz.func22 rfl (by kernel_rfl) Tryz.ntmps22 rfl rfl (fun w0 β0 ext hβ => ?_)
 repeat (first | refine jS ?_ | refine jD ?_ | refine jB ?_)
 refine jfin 0 [0, 7, 8, 9] true rfl rfl rfl (by show β0.length ≤ 0; rw [hβ]; decide) ?_
 refine jloop 0 (fun k : Nat => k ≤ l.length ∧ ∀ q, q < k → has1 l q = false) [0, 7, 8, 9] (fun k => [.sl (l.map encP), .sl (l.map encP), .v (.int .i64 ((l.map encP).length : Int)), .v (.int .i64 (k : Int))])
  (fun k => []) (fun k => l.length - k) 0 (by show β0.length ≤ 0; rw [hβ]; decide) ⟨Nat.zero_le _, fun q h => absurd h (by omega)⟩ rfl rfl (fun k hk => ?_)
 obtain ⟨hk, hok⟩ := hk
 repeat (first | refine jS ?_ | refine jD ?_ | refine jB ?_)
 refine jc rfl rfl rfl (fun h => ?_) (fun h => ?_)
 ·have h := of_decide_eq_true h
  rw [List.length_map] at h
  have hk2 : k < l.length := by omega
  have hidx : IntKind.i64.wrap ((k : Int) + 1) = ((k + 1 : Nat) : Int) := idx_next hk2 (by omega)
  have hb : has1 l k = (l.take k).any fun q => decide (q.1 = (at' l (k : Int)).1) := rfl
  have hno := @prsB_no l k hk2
  have hnx : has1 l k = false → ∀ q, q < k + 1 → has1 l q = false := fun h0 q hq => by
   by_cases e : q = k
   ·subst e; exact h0
   ·exact hok q (by omega)
  have hkl : (l.take k).length = k := by rw [List.length_take]; omega
  have hkm : (k : Int) = ((min l.length k : Nat) : Int) := by omega
  repeat (first | refine jS ?_ | refine jD ?_ | refine jB ?_ | refine jo rfl rfl (index_at rfl rfl rfl rfl rfl rfl rfl rfl (Int.natCast_nonneg k) h) rfl rfl ?_)
  refine jo rfl rfl (cut_take k rfl rfl rfl hkm rfl rfl rfl (fun _ => ⟨rfl, rfl⟩)) rfl rfl ?_
  have hT : ∀ q, q < k → at' (l.take k) (q : Int) = at' l (q : Int) := fun q hq => by rw [at_nat (l.take k) q (by omega), at_nat l q (by omega), List.getElem_take]
  have hno2 : ∀ q, q < k → (at' l (q : Int)).1 = (at' l (k : Int)).1 → has1 l k = true := fun q hq e => by
   rw [hb, List.any_eq_true]
   exact ⟨_, at_mem (show q < (l.take k).length by omega), by rw [hT q hq]; exact decide_eq_true e⟩
  have hye : (∀ q, q < k → (at' l (q : Int)).1 ≠ (at' l (k : Int)).1) → has1 l k = false := fun hq => by
   rw [hb, List.any_eq_false]
   intro x hx e
   obtain ⟨q, hq1, rfl⟩ := List.getElem_of_mem hx
   have hqk : q < k := by omega
   have := of_decide_eq_true e
   refine hq q hqk ?_
   rw [← hT q hqk, at_nat (l.take k) q hq1]; exact this
  generalize hp : at' l (k : Int) = p at *
  repeat (first | refine jS ?_ | refine jD ?_ | refine jB ?_)
  refine jfin 1 [0, 7, 8, 9, 3, 4, 16, 17, 18] true rfl rfl rfl (by show β0.length ≤ 1; rw [hβ]; decide) ?_
  refine jloop 1 (fun q : Nat => q ≤ k ∧ ∀ j, j < q → (at' l (j : Int)).1 ≠ p.1) [0, 7, 8, 9, 3, 4, 16, 17, 18] (fun q => [.sl (l.map encP), .sl (l.map encP), .v (.int .i64 ((l.map encP).length : Int)), .v (.int .i64 (k : Int)), .v (.int .i64 (k : Int)), .ptr 0 0, .sl ((l.take k).map encP), .v (.int .i64 (((l.take k).map encP).length : Int)), .v (.int .i64 (q : Int))])
   (fun q => [.box 56 [iv p.1, iv p.2]]) (fun q => k - q) 0 (by show β0.length ≤ 1; rw [hβ]; decide) ⟨Nat.zero_le _, fun q h => absurd h (by omega)⟩ rfl rfl (fun q hq => ?_)
  obtain ⟨hq, hqn⟩ := hq
  repeat (first | refine jS ?_ | refine jD ?_ | refine jB ?_)
  refine jc rfl rfl rfl (fun h => ?_) (fun h => ?_)
  ·have h := of_decide_eq_true h
   rw [List.length_map] at h
   have hq2 : q < k := by omega
   have hidx2 : IntKind.i64.wrap ((q : Int) + 1) = ((q + 1 : Nat) : Int) := idx_next (show q < (l.take k).length by omega) (by omega)
   have hTq := hT q hq2
   have hn2 := hno2 q hq2
   have hqn2 : (at' l (q : Int)).1 ≠ p.1 → ∀ j, j < q + 1 → (at' l (j : Int)).1 ≠ p.1 := fun h0 j hj => by
    by_cases e : j = q
    ·subst e; exact h0
    ·exact hqn j (by omega)
   repeat (first | refine jS ?_ | refine jD ?_ | refine jB ?_ | refine jo rfl rfl (index_at rfl rfl rfl rfl rfl rfl rfl rfl (Int.natCast_nonneg q) h) rfl rfl ?_)
   rw [hTq]
   generalize at' l (q : Int) = r at *
   by_cases e : r.1 = p.1
   ·rw [show (p.1 == r.1) = true from by rw [e]; simp]
    rw [hno (hn2 e)]
    repeat (first | refine jS ?_ | refine jD ?_ | refine jB ?_)
    exact jR
   ·rw [show (p.1 == r.1) = false from by simpa using fun e2 => e e2.symm]
    repeat (first | refine jS ?_ | refine jD ?_ | refine jB ?_)
    refine jnext (q + 1) ⟨hq2, hqn2 e⟩ (by omega) rfl rfl rfl ?_ rfl
    rw [hidx2]
  ·have h := of_decide_eq_false h
   rw [List.length_map] at h
   have : q = k := by omega
   subst this
   repeat (first | refine jS ?_ | refine jD ?_ | refine jB ?_)
   refine jnext (q + 1) ⟨hk2, hnx (hye hqn)⟩ (by omega) rfl rfl rfl ?_ rfl
   rw [hidx]
 ·have h := of_decide_eq_false h
  rw [List.length_map] at h
  have : k = l.length := by omega
  subst this
  rw [prsB_yes hok]
  repeat (first | refine jS ?_ | refine jD ?_ | refine jB ?_)
  rw [show decide ((((l.map encP).length : Nat) : Int) ≤ 12) = decide (l.length ≤ 12) from by rw [List.length_map]; exact decide_eq_decide.2 (by omega)]
  exact jret [] true rfl rfl rfl ⟨rfl, rfl⟩
def keysOk (l : List Int) : Bool := l.all fun k => inn k (-1000000000) 1000000000
theorem rkeys_ok (l : List Int) (hl : l.length ≤ 1000000) : ACalls Tryz.prog 23 [ivs l] [] (one (bv (keysOk l)) []) := by
 unfold ivs
 refine jcalls Tryz.func23 rfl (by kernel_rfl) Tryz.ntmps23 rfl rfl (fun w0 β0 ext hβ => ?_)
 repeat (first | refine jS ?_ | refine jD ?_ | refine jB ?_)
 refine jloopI (fun k : Nat => k ≤ l.length ∧ (l.take k).all (fun k => inn k (-1000000000) 1000000000) = true) [0, 5, 6, 7] (fun k => [.sl (l.map iv), .sl (l.map iv), .v (.int .i64 ((l.map iv).length : Int)), .v (.int .i64 (k : Int))])
  (fun k => []) (fun k => l.length - k) 0 ⟨Nat.zero_le _, rfl⟩ rfl rfl (fun k hk => ?_)
 obtain ⟨hk, hok⟩ := hk
 repeat (first | refine jS ?_ | refine jD ?_ | refine jB ?_)
 refine jc rfl rfl rfl (fun h => ?_) (fun h => ?_)
 ·have h := of_decide_eq_true h
  rw [List.length_map] at h
  have hk2 : k < l.length := by omega
  have hidx : IntKind.i64.wrap ((k : Int) + 1) = ((k + 1 : Nat) : Int) := idx_next hk2 (by omega)
  have hm := at_mem hk2
  have htk : (l.take (k + 1)).all (fun k => inn k (-1000000000) 1000000000) = inn (at' l (k : Int)) (-1000000000) 1000000000 := by
   rw [List.take_succ_eq_append_getElem hk2, List.all_append, hok, at_nat l k hk2]; simp
  repeat (first | refine jS ?_ | refine jD ?_ | refine jB ?_ | refine jo rfl rfl (index_at rfl rfl rfl rfl rfl rfl rfl rfl (Int.natCast_nonneg k) h) rfl rfl ?_)
  generalize at' l (k : Int) = v at *
  by_cases h1 : v < -1000000000
  ·rw [show decide (v < -1000000000) = true from decide_eq_true h1]
   have : keysOk l = false := by
    unfold keysOk
    rw [List.all_eq_false]
    exact ⟨v, hm, fun e => by have := (inn_iff.1 e).1; omega⟩
   rw [this]
   repeat (first | refine jS ?_ | refine jD ?_ | refine jB ?_)
   exact jR
  ·rw [show decide (v < -1000000000) = false from decide_eq_false h1]
   repeat (first | refine jS ?_ | refine jD ?_ | refine jB ?_)
   by_cases h2 : v > 1000000000
   ·rw [show decide (v > 1000000000) = true from decide_eq_true h2]
    have : keysOk l = false := by
     unfold keysOk
     rw [List.all_eq_false]
     exact ⟨v, hm, fun e => by have := (inn_iff.1 e).2; omega⟩
    rw [this]
    repeat (first | refine jS ?_ | refine jD ?_ | refine jB ?_)
    exact jR
   ·rw [show decide (v > 1000000000) = false from decide_eq_false h2]
    repeat (first | refine jS ?_ | refine jD ?_ | refine jB ?_)
    refine jnextI (k + 1) ⟨hk2, by rw [htk]; exact inn_iff.2 ⟨by omega, by omega⟩⟩ ?_ rfl (by omega)
    show some _ = some _
    rw [hidx]
 ·have h := of_decide_eq_false h
  rw [List.length_map] at h
  have : k = l.length := by omega
  subst this
  rw [List.take_length] at hok
  have : keysOk l = true := hok
  rw [this]
  repeat (first | refine jS ?_ | refine jD ?_ | refine jB ?_)
  exact jR
theorem csame_ok (l : List Pr) (hl : l.length ≤ 1000000) : ACalls Tryz.prog 39 [encPs l, encPs l] [] (one (bv true) []) := by
 unfold encPs
 refine jcalls Tryz.func39 rfl (by kernel_rfl) Tryz.ntmps39 rfl rfl (fun w0 β0 ext hβ => ?_)
 repeat (first | refine jS ?_ | refine jD ?_ | refine jB ?_)
 rw [show ((((l.map encP).length : Nat) : Int) != (((l.map encP).length : Nat) : Int)) = false from by simp]
 repeat (first | refine jS ?_ | refine jD ?_ | refine jB ?_)
 refine jloopI (fun k : Nat => k ≤ l.length) [0, 1, 12, 13] (fun k => [.sl (l.map encP), .sl (l.map encP), .v (.int .i64 ((l.map encP).length : Int)), .v (.int .i64 (k : Int))])
  (fun k => []) (fun k => l.length - k) 0 (Nat.zero_le _) rfl rfl (fun k hk => ?_)
 repeat (first | refine jS ?_ | refine jD ?_ | refine jB ?_)
 refine jc rfl rfl rfl (fun h => ?_) (fun h => ?_)
 ·have h := of_decide_eq_true h
  rw [List.length_map] at h
  have hk2 : k < l.length := by omega
  have hidx : IntKind.i64.wrap ((k : Int) + 1) = ((k + 1 : Nat) : Int) := idx_next hk2 (by omega)
  repeat (first | refine jS ?_ | refine jD ?_ | refine jB ?_ | refine jo rfl rfl (index_at rfl rfl rfl rfl rfl rfl rfl rfl (Int.natCast_nonneg k) h) rfl rfl ?_ | refine jo rfl rfl (eq_intsR (xs := [(at' l (k : Int)).1, (at' l (k : Int)).2]) (ys := [(at' l (k : Int)).1, (at' l (k : Int)).2]) (Or.inr rfl) rfl rfl rfl rfl rfl rfl (by kernel_rfl) (by kernel_rfl)) rfl rfl ?_)
  refine jc rfl rfl rfl (fun h => absurd h (by simp)) (fun h => ?_)
  repeat (first | refine jS ?_ | refine jD ?_ | refine jB ?_)
  refine jnextI (k + 1) hk2 ?_ rfl (by omega)
  show some _ = some _
  rw [hidx]
 ·have h := of_decide_eq_false h
  repeat (first | refine jS ?_ | refine jD ?_ | refine jB ?_)
  exact jR
end Go.AL
end
section
set_option maxRecDepth 100000
namespace Go.AL
open Go Go.Proofs
theorem g0_mkTags {tags : List Int} {k n : Nat} {tag : Int} (h : k + n ≤ tags.length) (q : Nat) : g0 (mkTags tags k n tag) q = if k ≤ q ∧ q < k + n then tag else g0 tags q := by
 unfold mkTags g0
 simp only [List.getD_eq_getElem?_getD]
 by_cases h1 : q < k
 ·rw [if_neg (by omega), List.append_assoc, List.getElem?_append_left (by simp; omega), List.getElem?_take_of_lt h1]
 ·by_cases h2 : q < k + n
  ·rw [if_pos (by omega), List.getElem?_append_left (by simp; omega), List.getElem?_append_right (by simp; omega), List.getElem?_replicate, if_pos (by simp; omega)]
   rfl
  ·rw [if_neg (by omega), List.getElem?_append_right (by simp; omega), List.getElem?_drop]
   congr 2
   simp; omega
structure Had (m m' : Mem) (k n : Nat) : Prop where
 right : mRight m' = true
 words : m'.words = m.words
 len : m'.tags.length = m'.words.length
 fits : k + n ≤ m'.words.length
 inside : ∀ q, k ≤ q → q < k + n → g0 m'.tags q = 1
 outside : ∀ q, ¬ (k ≤ q ∧ q < k + n) → g0 m'.tags q = g0 m.tags q
 was : ∀ q, k ≤ q → q < k + n → g0 m.tags q ≠ 1
theorem mkBad_zero {tags : List Int} {k : Nat} : ∀ n, mkBad tags k 1 n = 0 → ∀ q, q < n → g0 tags (k + q) ≠ 1
 | 0, _, q, hq => absurd hq (by omega)
 | n + 1, h, q, hq => by
  unfold mkBad at h
  cases h1 : decide (mkBad tags k 1 n = 0) with
  | false => rw [h1] at h; exact absurd h (of_decide_eq_false h1)
  | true =>
   rw [h1] at h
   have ih := mkBad_zero n (of_decide_eq_true h1)
   by_cases e : q = n
   ·subst e
    intro e2
    rw [cond_true, e2] at h
    exact absurd h (by decide)
   ·exact ih q (by omega)
theorem mMark_had {m : Mem} {k n : Int} (hr : mRight m = true) (h : (mMark m k n 1).2 = 0) : 0 ≤ k ∧ 1 ≤ n ∧ Had m (mMark m k n 1).1 k.toNat n.toNat := by
 obtain ⟨r1, r2⟩ := mMark_right hr (.inl rfl) h
 obtain ⟨s1, s2, s3, s4⟩ := (mRight_iff m).1 hr
 obtain ⟨t1, t2, t3, t4⟩ := (mRight_iff _).1 r1
 unfold mMark at h r1 t3 ⊢
 cases hc : (decide (1 ≤ n) && (inn k 0 (m.words.length - 1) && decide (n ≤ m.words.length - k))) with
 | false => rw [hc] at h; cases h
 | true =>
  rw [hc] at h r1 t3
  simp only [Bool.and_eq_true, decide_eq_true_eq, inn_iff] at hc
  cases hb : decide (mkBad m.tags k.toNat 1 n.toNat = 0) with
  | false =>
   rw [hb] at h
   exact absurd h (of_decide_eq_false hb)
  | true =>
   rw [hb] at r1 t3
   have hle : k.toNat + n.toNat ≤ m.tags.length := by omega
   simp only [cond_true] at r1 t3 ⊢
   refine ⟨hc.2.1.1, hc.1, r1, rfl, t3, by show k.toNat + n.toNat ≤ m.words.length; omega, fun q h1 h2 => ?_, fun q hq => ?_, fun q h1 h2 => ?_⟩
   ·show g0 (mkTags m.tags k.toNat n.toNat 1) q = 1
    rw [g0_mkTags hle, if_pos ⟨h1, h2⟩]
   ·show g0 (mkTags m.tags k.toNat n.toNat 1) q = _
    rw [g0_mkTags hle, if_neg hq]
   ·have := mkBad_zero _ (of_decide_eq_true hb) (q - k.toNat) (by omega)
    rw [show k.toNat + (q - k.toNat) = q by omega] at this
    exact this
theorem use_live {m : Mem} {q : Nat} (h : q < m.words.length) (h1 : g0 m.tags q = 1) : mUse m (q : Int) = 0 := by
 unfold mUse
 rw [inn_iff.2 ⟨by omega, by omega⟩]
 show why (g0 m.tags ((q : Int)).toNat) = 0
 rw [show ((q : Int)).toNat = q by omega, h1]; rfl
theorem store_live {m : Mem} {q : Nat} {v : Int} (h : q < m.words.length) (h1 : g0 m.tags q = 1) : mStore m (q : Int) v = (⟨m.words.set q v, m.tags⟩, 0) := by
 unfold mStore
 rw [decide_eq_true (use_live h h1), show ((q : Int)).toNat = q by omega]; rfl
def stL : List Int → Nat → List Int → List Int
 | ws, _, [] => ws
 | ws, k, x :: xs => stL (ws.set k x) (k + 1) xs
theorem stL_len : ∀ (xs ws : List Int) (k : Nat), (stL ws k xs).length = ws.length
 | [], ws, k => rfl
 | x :: xs, ws, k => by unfold stL; rw [stL_len xs]; simp
theorem stL_snoc : ∀ (xs ws : List Int) (k : Nat) (x : Int), stL ws k (xs ++ [x]) = (stL ws k xs).set (k + xs.length) x
 | [], ws, k, x => rfl
 | y :: xs, ws, k, x => by
  show stL (ws.set k y) (k + 1) (xs ++ [x]) = _
  rw [stL_snoc xs]
  show _ = (stL (ws.set k y) (k + 1) xs).set _ _
  congr 1
  simp; omega
theorem stL_set : ∀ (xs ws : List Int) (k j : Nat) (v : Int), (j < k ∨ k + xs.length ≤ j) → stL (ws.set j v) k xs = (stL ws k xs).set j v
 | [], ws, k, j, v, _ => rfl
 | x :: xs, ws, k, j, v, h => by
  have hl : (x :: xs).length = xs.length + 1 := rfl
  show stL ((ws.set j v).set k x) (k + 1) xs = (stL (ws.set k x) (k + 1) xs).set j v
  rw [List.set_comm _ _ (show j ≠ k by omega), stL_set xs _ _ _ _ (by omega)]
def chNx (n : Nat) (base : Int) (i : Nat) : Int := if i + 1 = n then 0 else base + 3 * ((i : Int) + 1)
def chW (n : Nat) (base : Int) (l : List Pr) (k : Nat) : List Int := (l.zipIdx k).flatMap fun p => [p.1.1, p.1.2, chNx n base p.2]
theorem chW_len (n : Nat) (base : Int) : ∀ (l : List Pr) (k : Nat), (chW n base l k).length = 3 * l.length
 | [], k => rfl
 | x :: xs, k => by
  have := chW_len n base xs (k + 1)
  unfold chW at this ⊢
  rw [List.zipIdx_cons, List.flatMap_cons, List.length_append, this]
  simp; omega
theorem chW_succ (n : Nat) (base : Int) (l : List Pr) {q : Nat} (h : q < l.length) : chW n base (l.take (q + 1)) 0 = chW n base (l.take q) 0 ++ [(at' l (q : Int)).1, (at' l (q : Int)).2, chNx n base q] := by
 unfold chW
 rw [List.take_succ_eq_append_getElem h, List.zipIdx_append, List.flatMap_append, at_nat l q h, List.length_take, Nat.min_eq_left (Nat.le_of_lt h)]
 simp
def chM (m : Mem) (at' base : Nat) (l : List Pr) : Mem := ⟨(stL m.words base (chW l.length base l 0)).set at' (if l = [] then 0 else base), m.tags⟩
def rngBad (L : Nat) (at' base : Int) (n : Nat) : Bool := decide (at' < 0) || (decide (at' ≥ L) || (decide (0 < n) && (decide (base < 1) || (decide (base > L) || decide ((n : Int) > L - base)))))
def lay1 (m : Mem) (a : Int) : Mem × Int := mMark m a 1 1
def lay2 (m : Mem) (a base : Int) (n : Nat) : Mem × Int := cond (decide (0 < n)) (mMark (lay1 m a).1 base n 1) (lay1 m a)
def layP (m : Mem) (a base : Int) (l : List Pr) : Mem × Int :=
 cond (mRight m && prsOk l) (cond (rngBad m.words.length a base (3 * l.length)) (mem0, 3) (cond (decide ((lay1 m a).2 = 0)) (cond (decide ((lay2 m a base (3 * l.length)).2 = 0)) (chM (lay2 m a base (3 * l.length)).1 a.toNat base.toNat l, 0) (mem0, (lay2 m a base (3 * l.length)).2)) (mem0, (lay1 m a).2))) (mem0, 1)
structure Laid (m m2 : Mem) (a b n : Nat) : Prop where
 right : mRight m2 = true
 words : m2.words = m.words
 len : m2.tags.length = m2.words.length
 at1 : a < m2.words.length
 live : g0 m2.tags a = 1
 fits : n = 0 ∨ b + n ≤ m2.words.length
 row : ∀ q, b ≤ q → q < b + n → g0 m2.tags q = 1
 apart : n = 0 ∨ a < b ∨ b + n ≤ a
theorem laid_ok {m : Mem} {a base : Int} {n : Nat} (hr : mRight m = true) (h1 : (lay1 m a).2 = 0) (h2 : (lay2 m a base n).2 = 0) : 0 ≤ a ∧ (0 < n → 0 ≤ base) ∧ Laid m (lay2 m a base n).1 a.toNat base.toNat n := by
 unfold lay2 at h2 ⊢
 unfold lay1 at h1 h2 ⊢
 obtain ⟨k1, k2, H⟩ := mMark_had hr h1
 have hin := H.inside a.toNat (Nat.le_refl _) (by omega)
 have hf := H.fits
 rw [show (1 : Int).toNat = 1 from rfl] at H hf
 by_cases hn : 0 < n
 ·rw [decide_eq_true hn] at h2 ⊢
  simp only [cond_true] at h2 ⊢
  obtain ⟨j1, j2, K⟩ := mMark_had H.right h2
  rw [show ((n : Int)).toNat = n by omega] at K
  have hap : a.toNat < base.toNat ∨ base.toNat + n ≤ a.toNat := by
   rcases Nat.lt_or_ge a.toNat base.toNat with h | h
   ·exact .inl h
   ·rcases Nat.lt_or_ge a.toNat (base.toNat + n) with h' | h'
    ·exact absurd hin (K.was _ h h')
    ·exact .inr h'
  refine ⟨k1, fun _ => j1, K.right, K.words.trans H.words, K.len, by rw [K.words]; omega, ?_, .inr K.fits, K.inside, .inr hap⟩
  rw [K.outside _ (by omega)]; exact hin
 ·rw [decide_eq_false hn] at h2 ⊢
  simp only [cond_false] at h2 ⊢
  exact ⟨k1, fun h => absurd h hn, H.right, H.words, H.len, by omega, hin, .inl (by omega), fun q q1 q2 => absurd q2 (by omega), .inl (by omega)⟩
theorem chM_eq (m : Mem) {a b : Nat} {l : List Pr} (h : 3 * l.length = 0 ∨ a < b ∨ b + 3 * l.length ≤ a) : chM m a b l = ⟨stL (m.words.set a (if l = [] then 0 else b)) b (chW l.length b l 0), m.tags⟩ := by
 unfold chM
 rcases h with h | h
 ·have : l = [] := List.length_eq_zero_iff.1 (by omega)
  subst this; rfl
 ·rw [stL_set _ _ _ _ _ (by rw [chW_len]; exact h)]
end Go.AL
end
section
set_option maxRecDepth 100000
namespace Go.AL
open Go Go.Proofs
attribute [local irreducible] J
end Go.AL
end
section
set_option maxRecDepth 100000
namespace Go.AL
open Go Go.Proofs
attribute [local irreducible] J
theorem dd_rec {n : Nat} (h : ¬ n < 10) : Lib.decDigits n = Lib.decDigits (n / 10) ++ Lib.decDigits (n % 10) := by
 rw [Lib.decDigits, dif_neg h, Lib.decDigits_one (by omega : n % 10 < 10)]
theorem digitsN_ok : ∀ n : Nat, n ≤ 1000000000 → ACalls Tryz.prog 65 [iv n] [] (one (sv (Lib.decDigits n)) []) := by
 intro n
 induction n using Nat.strongRecOn with
 | _ n ih =>
  intro hn
  have hlen := dd_len 9 n (by omega)
  have hneg : decide ((n : Int) < 0) = false := decide_eq_false (by omega)
  by_cases h : n < 10
  ·have h10 : decide ((n : Int) < 10) = true := decide_eq_true (by omega)
   have hw : IntKind.u8.wrap (IntKind.i64.wrap (48 + (n : Int))) = ((UInt8.ofNat (48 + n)).toNat : Int) := by
    rw [(dgt_of n h).2, wrap_id (by omega) (by omega)]
    have : ∀ m : Nat, m < 10 → IntKind.u8.wrap (48 + (m : Int)) = ((48 + m : Nat) : Int) := by decide
    exact this n h
   rw [Lib.decDigits_one h]
   refine jcalls Tryz.func65 rfl (by kernel_rfl) Tryz.ntmps65 rfl rfl (fun w0 β0 ext hβ => ?_)
   repeat (first | refine jS ?_ | refine jD ?_ | refine jB ?_)
   rw [hneg]
   repeat (first | refine jS ?_ | refine jD ?_ | refine jB ?_)
   rw [h10]
   repeat (first | refine jS ?_ | refine jD ?_ | refine jB ?_)
   rw [hw]
   repeat (first | refine jS ?_ | refine jD ?_ | refine jB ?_ | refine jo rfl rfl (conv_byte (UInt8.ofNat (48 + n)) rfl rfl rfl rfl rfl rfl rfl rfl rfl) rfl rfl ?_)
   exact jR
  ·have h10 : decide ((n : Int) < 10) = false := decide_eq_false (by omega)
   have i1 := ih (n / 10) (by omega) (by omega)
   have i2 := ih (n % 10) (by omega) (by omega)
   have q1 : IntKind.i64.wrap ((n : Int).tdiv 10) = ((n / 10 : Nat) : Int) := by
    rw [Int.tdiv_eq_ediv_of_nonneg (by omega), wrap_id (by omega) (by omega)]; omega
   have q2 : (n : Int).tmod 10 = ((n % 10 : Nat) : Int) := by
    rw [Int.tmod_eq_emod_of_nonneg (by omega)]; omega
   rw [dd_rec h] at hlen ⊢
   rw [List.length_append] at hlen
   generalize Lib.decDigits (n / 10) = d1 at *
   generalize Lib.decDigits (n % 10) = d2 at *
   have hc : d1.length + d2.length ≤ 1000000000 := by omega
   refine jcalls Tryz.func65 rfl (by kernel_rfl) Tryz.ntmps65 rfl rfl (fun w0 β0 ext hβ => ?_)
   repeat (first | refine jS ?_ | refine jD ?_ | refine jB ?_)
   rw [hneg]
   repeat (first | refine jS ?_ | refine jD ?_ | refine jB ?_)
   rw [h10]
   repeat (first | refine jS ?_ | refine jD ?_ | refine jB ?_)
   rw [q1]
   repeat (first | refine jS ?_ | refine jD ?_ | refine jB ?_ | refine jV i1 ?_)
   rw [q2]
   repeat (first | refine jS ?_ | refine jD ?_ | refine jB ?_ | refine jV i2 ?_ | refine jo rfl rfl (cat_str rfl rfl hc) rfl rfl ?_)
   exact jR
theorem digits_ok (v : Int) (h : bd v) : ACalls Tryz.prog 65 [iv v] [] (one (sv (Lib.itoa v)) []) := by
 unfold bd at h
 by_cases hv : v < 0
 ·obtain ⟨n, hn⟩ : ∃ n : Nat, 0 - v = n := ⟨(0 - v).toNat, by omega⟩
  have i1 := digitsN_ok n (by omega)
  have hneg : decide (v < 0) = true := decide_eq_true hv
  have hlen := dd_len 9 n (by omega)
  have e : Lib.itoa v = [45] ++ Lib.decDigits n := by
   unfold Lib.itoa
   rw [if_pos hv, show v.natAbs = n by omega]; rfl
  rw [e]
  have hw : IntKind.i64.wrap (0 - v) = (n : Int) := by rw [wrap_id (by omega) (by omega)]; exact hn
  have hc : ([45] : Bs).length + (Lib.decDigits n).length ≤ 1000000000 := by simp; omega
  refine jcalls Tryz.func65 rfl (by kernel_rfl) Tryz.ntmps65 rfl rfl (fun w0 β0 ext hβ => ?_)
  repeat (first | refine jS ?_ | refine jD ?_ | refine jB ?_)
  rw [hneg]
  repeat (first | refine jS ?_ | refine jD ?_ | refine jB ?_)
  rw [hw]
  repeat (first | refine jS ?_ | refine jD ?_ | refine jB ?_ | refine jV i1 ?_ | refine jo rfl rfl (cat_str (a := [45]) rfl rfl hc) rfl rfl ?_)
  exact jR
 ·obtain ⟨n, rfl⟩ : ∃ n : Nat, v = n := ⟨v.toNat, by omega⟩
  rw [itoa_nat]
  exact digitsN_ok n (by omega)
theorem make_pub [T : TyTab Tryz.prog] {dst : Option Tmp} {t : TypeId} {l c : Operand} {type : TypeId} {pos : String} {after : Array Edge} {guard : Option (Nat × Bool)} {F : Fr} {H : List AObj} {e : TypeId} {r r' : TyRow} {kl kc : IntKind} {n : Int} (m : Nat) {z : Value}
  (hl : ev F l = some (.v (.int kl n))) (hc : ev F c = some (.v (.int kc n))) (hm : n = (m : Int)) (ht : tfind T.tab t = some r') (hd : r'.d = .slice e) (he : tfind T.tab e = some r) (hz : r.z = z) (hs : r.size = 1) (hzc : z.cells = #[z]) (hb : r.bytes ≤ 1000) (hk : m ≤ 1000000) :
  DSem Tryz.prog .p ⟨dst, .makeSlice t l c, type, pos, after, guard⟩ F H (.sl (List.replicate m (.v z))) H := by
 refine ⟨rfl, fun H' => ?_⟩
 intro ext w β ρ hI hext hκ hρ
 have h2 : ρ l = .int kl n := hρ l (by simp [Op.operands]) _ hl
 have h3 : ρ c = .int kc n := hρ c (by simp [Op.operands]) _ hc
 obtain ⟨i, i1, i2, i3, i4⟩ := ty_info he
 rw [hz] at i2
 rw [hs] at i3
 have hu : Tryz.prog.underlying t = some (.slice e) := by rw [ty_und ht, hd]
 have hbm : i.bytes * m ≤ 1000 * 1000000 := Nat.mul_le_mul (by omega) hk
 have hq0 : (i.bytes : Int) * n ≤ 281474976710656 := by
  rw [hm, ← Int.natCast_mul]; generalize i.bytes * m = q at hbm ⊢; omega
 have hr := run_make (P := Tryz.prog) w t e i z hu i1 i2 kl kc n n (by omega) (Int.le_refl _) hq0 (by omega)
 have h4 : (execOp ρ ⟨dst, .makeSlice t l c, type, pos, after, guard⟩).run Tryz.prog w = .ok (.value (.slice (some ⟨w.heap.size, 0, none⟩) m m)) (World.push w (.cells (madeCells z.cells m) e)) := by
  simp only [execOp, Sem.run_bind, h2, h3, hr, Result.andThen_ok, Sem.run_pure]
  rw [hm, i3, Nat.mul_one]
  rfl
 rw [h4]
 refine ⟨_, _, β, ⟨rfl, rfl⟩, ⟨some ⟨w.heap.size, 0, none⟩, m, 1, by rw [List.length_replicate], by rw [List.length_replicate]; exact Nat.le_refl _, fun _ => ⟨w.heap.size, 0, rfl, ?_, by show w.heap.size < (World.push w _).heap.size; rw [push_size]; omega⟩, ?_⟩, hI.push _, Step.push w β _⟩
 ·rintro (h | h)
  ·exact absurd (hext _ h) (by omega)
  ·exact absurd (hI.sep _ h).2 (by omega)
 ·refine RelR.of_get fun q a ha => ?_
  have hq : q < m := by simpa using (List.getElem?_eq_some_iff.1 ha).1
  rw [List.getElem?_replicate, if_pos hq] at ha
  injection ha with ha
  subst ha
  refine ⟨z, rfl, by rw [hzc]; rfl, fun p hp => ?_⟩
  have hp0 : p = 0 := by omega
  subst hp0
  simp only [Nat.zero_add, Nat.mul_one, Nat.add_zero]
  show (World.push w _).cell? ⟨w.heap.size, 0 + q, none⟩ = _
  rw [Nat.zero_add]
  simp only [World.cell?, push_top]
  rw [hzc]
  show (madeCells #[z] m)[q]? = _
  rw [made_get _ _ _ hq]
  rfl
theorem mnew_ok (n : Nat) (h1 : 1 ≤ n) (h2 : n ≤ 160) : ACalls Tryz.prog 58 [iv (n : Int)] [] (one (.tup [encMem ⟨List.replicate n 0, List.replicate n 0⟩, iv 0]) []) := by
 have f1 : decide ((n : Int) < 1) = false := decide_eq_false (by omega)
 have f2 : decide ((n : Int) > 160) = false := decide_eq_false (by omega)
 unfold encMem mCells ivs
 refine jcalls Tryz.func58 rfl (by kernel_rfl) Tryz.ntmps58 rfl rfl (fun w0 β0 ext hβ => ?_)
 repeat (first | refine jS ?_ | refine jD ?_ | refine jB ?_)
 rw [f1]
 repeat (first | refine jS ?_ | refine jD ?_ | refine jB ?_)
 rw [f2]
 repeat (first | refine jS ?_ | refine jB ?_)
 refine jdrawPT [(0, .p), (1, .p), (2, .p), (3, .p), (4, .p), (5, .m), (6, .p)] rfl (by kernel_rfl) ?_
 repeat (first | refine jS ?_ | refine jD ?_ | refine jB ?_)
 refine jo rfl rfl (make_pub n rfl rfl rfl rfl rfl rfl rfl rfl rfl (by decide) (by omega)) rfl rfl ?_
 repeat (first | refine jS ?_ | refine jD ?_ | refine jB ?_)
 refine jo rfl rfl (make_pub n rfl rfl rfl rfl rfl rfl rfl rfl rfl (by decide) (by omega)) rfl rfl ?_
 repeat (first | refine jS ?_ | refine jD ?_ | refine jB ?_)
 rw [List.map_replicate]
 exact jR
end Go.AL
end
section
set_option maxRecDepth 100000
namespace Go.AL
open Go Go.Proofs
attribute [local irreducible] J
theorem neq_same {P : Program} {F : Fr} {H : List AObj} {dst : Option Tmp} {t yt : TypeId} {x y : Operand} {type : TypeId} {pos : String} {after : Array Edge} {guard : Option (Nat × Bool)} {a b : ByteArray} (hx : ev F x = some (.v (.string a))) (hy : ev F y = some (.v (.string b))) (e : a = b) :
  DSem P .p ⟨dst, .binOp .neq t x y yt, type, pos, after, guard⟩ F H (bv false) H := by
 subst e
 refine ⟨rfl, fun H' => Says.sem (says_bin hx hy (fun c u u' w r1 r2 => ?_) ⟨_, rfl⟩) H'⟩
 cases (show u = .string a from r1); cases (show u' = .string a from r2)
 simp only [Sem.run_bind, run_eqGuard_string, Result.andThen_ok]
 simp [binOp, Op.stringOp]
end Go.AL
end
section
set_option maxRecDepth 100000
namespace Go.AL
open Go Go.Proofs
attribute [local irreducible] J
def nxQ (n : Nat) (base : Int) (q : Nat) : Int := if q = n ∧ 0 < q then 0 else base + 3 * (q : Int)
theorem layP_arg {m : Mem} {a base : Int} {l : List Pr} (h : (mRight m && prsOk l) = false) : layP m a base l = (mem0, 1) := by unfold layP; rw [h]; rfl
theorem layP_rng {m : Mem} {a base : Int} {l : List Pr} (h : (mRight m && prsOk l) = true) (h1 : rngBad m.words.length a base (3 * l.length) = true) : layP m a base l = (mem0, 3) := by unfold layP; rw [h, h1]; rfl
theorem layP_one {m : Mem} {a base : Int} {l : List Pr} (h : (mRight m && prsOk l) = true) (h1 : rngBad m.words.length a base (3 * l.length) = false) (h2 : (lay1 m a).2 ≠ 0) : layP m a base l = (mem0, (lay1 m a).2) := by unfold layP; rw [h, h1, decide_eq_false h2]; rfl
theorem layP_two {m : Mem} {a base : Int} {l : List Pr} (h : (mRight m && prsOk l) = true) (h1 : rngBad m.words.length a base (3 * l.length) = false) (h2 : (lay1 m a).2 = 0) (h3 : (lay2 m a base (3 * l.length)).2 ≠ 0) : layP m a base l = (mem0, (lay2 m a base (3 * l.length)).2) := by
 unfold layP; rw [h, h1, decide_eq_true h2, decide_eq_false h3]; rfl
theorem layP_fine {m : Mem} {a base : Int} {l : List Pr} (h : (mRight m && prsOk l) = true) (h1 : rngBad m.words.length a base (3 * l.length) = false) (h2 : (lay1 m a).2 = 0) (h3 : (lay2 m a base (3 * l.length)).2 = 0) : layP m a base l = (chM (lay2 m a base (3 * l.length)).1 a.toNat base.toNat l, 0) := by
 unfold layP; rw [h, h1, decide_eq_true h2, decide_eq_true h3]; rfl
theorem clay_ok (m : Mem) (a base : Int) (l : List Pr) (hw : m.words.length ≤ 1000000) (ht : m.tags.length ≤ 1000000) (hl : l.length ≤ 1000000) : ACalls Tryz.prog 36 [encMem m, iv a, iv base, encPs l] [] (one (.tup [encMem (layP m a base l).1, iv (layP m a base l).2]) []) := by
 have h1 := mem_right m hw ht
 have h2 := may_ok l hl
 have hn : IntKind.i64.wrap (3 * (((l.map encP).length : Nat) : Int)) = ((3 * l.length : Nat) : Int) := by rw [List.length_map, wrap_id (by omega) (by omega)]; omega
 cases hR : mRight m with
 | false =>
  rw [layP_arg (by rw [hR]; rfl)]
  rw [hR] at h1
  unfold encMem mCells ivs encPs at *
  refine jcalls Tryz.func36 rfl (by kernel_rfl) Tryz.ntmps36 rfl rfl (fun w0 β0 ext hβ => ?_)
  repeat (first | refine jS ?_ | refine jD ?_ | refine jB ?_ | refine jV h1 ?_)
  exact jret [] true rfl rfl rfl ⟨rfl, rfl⟩
 | true =>
  cases hP : prsOk l with
  | false =>
   rw [layP_arg (by rw [hR, hP]; rfl)]
   rw [hR] at h1
   rw [hP] at h2
   unfold encMem mCells ivs encPs at *
   refine jcalls Tryz.func36 rfl (by kernel_rfl) Tryz.ntmps36 rfl rfl (fun w0 β0 ext hβ => ?_)
   repeat (first | refine jS ?_ | refine jD ?_ | refine jB ?_ | refine jV h1 ?_ | refine jV h2 ?_)
   exact jret [] true rfl rfl rfl ⟨rfl, rfl⟩
  | true =>
   have hb : (mRight m && prsOk l) = true := by rw [hR, hP]; rfl
   have hp12 : l.length ≤ 12 := by
    unfold prsOk at hP
    rw [Bool.and_eq_true] at hP
    exact of_decide_eq_true hP.2
   obtain ⟨s1, s2, s3, s4⟩ := (mRight_iff m).1 hR
   have h3 := mark_ok m a 1 1 hR (.inl rfl)
   rw [hR] at h1
   rw [hP] at h2
   have hL : (((m.words.map iv).length : Nat) : Int) = (m.words.length : Int) := by rw [List.length_map]
   have hx : ∀ {p : Prop} [Decidable p], p → decide p = true := fun h => decide_eq_true h
   have hf : ∀ {p : Prop} [Decidable p], ¬ p → decide p = false := fun h => decide_eq_false h
   have hsub : 1 ≤ base → base ≤ m.words.length → IntKind.i64.wrap ((((m.words.map iv).length : Nat) : Int) - base) = (m.words.length : Int) - base := fun b1 b2 => by rw [hL, wrap_id (by omega) (by omega)]
   have hone : (lay1 m a) = mMark m a 1 1 := rfl
   have htwo : lay2 m a base (3 * l.length) = cond (decide (0 < 3 * l.length)) (mMark (lay1 m a).1 base (3 * l.length : Nat) 1) (lay1 m a) := rfl
   unfold encPs at *
   unfold encMem mCells ivs at *
   cases hrb : rngBad m.words.length a base (3 * l.length) with
   | true =>
    rw [layP_rng hb hrb]
    refine jcalls Tryz.func36 rfl (by kernel_rfl) Tryz.ntmps36 rfl rfl (fun w0 β0 ext hβ => ?_)
    repeat (first | refine jS ?_ | refine jD ?_ | refine jB ?_ | refine jV h1 ?_ | refine jV h2 ?_)
    rw [hn]
    by_cases c1 : a < 0
    ·rw [show decide (a < 0) = true from hx c1]
     repeat (first | refine jS ?_ | refine jD ?_ | refine jB ?_)
     exact jret [] true rfl rfl rfl ⟨rfl, rfl⟩
    rw [show decide (a < 0) = false from hf c1]
    repeat (first | refine jS ?_ | refine jD ?_ | refine jB ?_)
    rw [hL]
    by_cases c2 : a ≥ m.words.length
    ·rw [show decide (a ≥ (m.words.length : Int)) = true from hx c2]
     repeat (first | refine jS ?_ | refine jD ?_ | refine jB ?_)
     exact jret [] true rfl rfl rfl ⟨rfl, rfl⟩
    rw [show decide (a ≥ (m.words.length : Int)) = false from hf c2]
    unfold rngBad at hrb
    rw [hf c1, hf c2] at hrb
    simp only [Bool.false_or, Bool.and_eq_true, decide_eq_true_eq, Bool.or_eq_true] at hrb
    repeat (first | refine jS ?_ | refine jD ?_ | refine jB ?_)
    rw [show decide (((3 * l.length : Nat) : Int) > 0) = true from hx (by omega)]
    repeat (first | refine jS ?_ | refine jD ?_ | refine jB ?_)
    by_cases c3 : base < 1
    ·rw [show decide (base < 1) = true from hx c3]
     repeat (first | refine jS ?_ | refine jD ?_ | refine jB ?_)
     exact jret [] true rfl rfl rfl ⟨rfl, rfl⟩
    rw [show decide (base < 1) = false from hf c3]
    repeat (first | refine jS ?_ | refine jD ?_ | refine jB ?_)
    rw [hL]
    by_cases c4 : base > m.words.length
    ·rw [show decide (base > (m.words.length : Int)) = true from hx c4]
     repeat (first | refine jS ?_ | refine jD ?_ | refine jB ?_)
     exact jret [] true rfl rfl rfl ⟨rfl, rfl⟩
    rw [show decide (base > (m.words.length : Int)) = false from hf c4]
    repeat (first | refine jS ?_ | refine jD ?_ | refine jB ?_)
    rw [hsub (by omega) (by omega)]
    rw [show decide (((3 * l.length : Nat) : Int) > (m.words.length : Int) - base) = true from hx (by omega)]
    repeat (first | refine jS ?_ | refine jD ?_ | refine jB ?_)
    exact jret [] true rfl rfl rfl ⟨rfl, rfl⟩
   | false =>
    refine jcalls Tryz.func36 rfl (by kernel_rfl) Tryz.ntmps36 rfl rfl (fun w0 β0 ext hβ => ?_)
    iterate 16 refine jS ?_
    rw [hn]
    have hrb' := hrb
    unfold rngBad at hrb'
    simp only [Bool.or_eq_false_iff, Bool.and_eq_false_iff, decide_eq_false_iff_not] at hrb'
    obtain ⟨c1, c2, c3⟩ := hrb'
    refine jmid [1, 2, 3, 4, 8, 10] [iv a, iv base, .sl (l.map encP), .ptr 0 0, .ptr 1 0, iv ((3 * l.length : Nat) : Int)] [.box 25 [.sl (m.words.map iv), .sl (m.tags.map iv)], .box 25 [.slf [], .slf []]] ?_ ?_
    ·repeat (first | refine jS ?_ | refine jD ?_ | refine jB ?_ | refine jV h1 ?_ | refine jV h2 ?_)
     rw [show decide (a < 0) = false from hf c1]
     repeat (first | refine jS ?_ | refine jD ?_ | refine jB ?_)
     rw [hL]
     rw [show decide (a ≥ (m.words.length : Int)) = false from hf c2]
     repeat (first | refine jS ?_ | refine jD ?_ | refine jB ?_)
     by_cases hn0 : 0 < 3 * l.length
     ·rw [show decide (((3 * l.length : Nat) : Int) > 0) = true from hx (by omega)]
      repeat (first | refine jS ?_ | refine jD ?_ | refine jB ?_)
      rw [show decide (base < 1) = false from hf (by omega)]
      repeat (first | refine jS ?_ | refine jD ?_ | refine jB ?_)
      rw [hL]
      rw [show decide (base > (m.words.length : Int)) = false from hf (by omega)]
      repeat (first | refine jS ?_ | refine jD ?_ | refine jB ?_)
      rw [hsub (by omega) (by omega)]
      rw [show decide (((3 * l.length : Nat) : Int) > (m.words.length : Int) - base) = false from hf (by omega)]
      repeat (first | refine jS ?_ | refine jD ?_ | refine jB ?_)
      exact jmeet rfl rfl
     ·rw [show decide (((3 * l.length : Nat) : Int) > 0) = false from hf (by omega)]
      repeat (first | refine jS ?_ | refine jD ?_ | refine jB ?_)
      exact jmeet rfl rfl
    ·have h4 := mark_ok (lay1 m a).1 base ((3 * l.length : Nat) : Int) 1
     unfold encMem mCells ivs at h4
     have hR1 := mMark_right (m := m) (k := a) (n := 1) (tag := 1) hR (.inl rfl)
     rw [← hone] at h3 hR1
     have htwoA : 0 < 3 * l.length → lay2 m a base (3 * l.length) = mMark (lay1 m a).1 base ((3 * l.length : Nat) : Int) 1 := fun h => by rw [htwo, hx h]; rfl
     have htwoB : ¬ 0 < 3 * l.length → lay2 m a base (3 * l.length) = lay1 m a := fun h => by rw [htwo, hf h]; rfl
     have hlay := laid_ok (m := m) (a := a) (base := base) (n := 3 * l.length) hR
     iterate 4 (first | refine jS ?_ | refine jB ?_)
     refine jV h3 ?_
     iterate 8 (first | refine jS ?_ | refine jB ?_)
     obtain ⟨mb, hmb⟩ : ∃ mb : Mem × Int, mb = cond (decide ((lay1 m a).2 = 0)) (lay2 m a base (3 * l.length)) (lay1 m a) := ⟨_, rfl⟩
     refine jmid [1, 2, 3, 4, 8, 10, 11] [iv a, iv base, .sl (l.map encP), .ptr 0 0, .ptr 1 0, iv ((3 * l.length : Nat) : Int), iv mb.2] [.box 25 [.sl (mb.1.words.map iv), .sl (mb.1.tags.map iv)], .box 25 [.slf [], .slf []]] ?_ ?_
     ·by_cases hn0 : 0 < 3 * l.length
      ·have hh := htwoA hn0
       by_cases e1 : (lay1 m a).2 = 0
       ·have h4 := mark_ok (lay1 m a).1 base ((3 * l.length : Nat) : Int) 1 (hR1 e1).1 (.inl rfl)
        unfold encMem mCells ivs at h4
        rw [hx e1] at hmb
        rw [hh] at hmb
        rw [e1]
        subst hmb
        generalize mMark (lay1 m a).1 base ((3 * l.length : Nat) : Int) 1 = r2 at *
        generalize (lay1 m a).1 = r1 at *
        simp only [cond_true]
        repeat (first | refine jS ?_ | refine jD ?_ | refine jB ?_)
        rw [show decide (((3 * l.length : Nat) : Int) > 0) = true from hx (by omega)]
        repeat (first | refine jS ?_ | refine jD ?_ | refine jB ?_ | refine jV h4 ?_)
        exact jmeet rfl rfl
       ·rw [hf e1] at hmb
        subst hmb
        have hne : ((lay1 m a).2 == 0) = false := by rw [beq_eq_false_iff_ne]; exact e1
        simp only [cond_false]
        generalize (lay1 m a).2 = e at *
        generalize (lay1 m a).1 = r1 at *
        repeat (first | refine jS ?_ | refine jD ?_ | refine jB ?_)
        rw [show decide (((3 * l.length : Nat) : Int) > 0) = true from hx (by omega)]
        repeat (first | refine jS ?_ | refine jD ?_ | refine jB ?_)
        rw [hne]
        repeat (first | refine jS ?_ | refine jD ?_ | refine jB ?_)
        exact jmeet rfl rfl
      ·have hh := htwoB hn0
       rw [hh] at hmb
       have hmb2 : mb = lay1 m a := by rw [hmb]; cases decide ((lay1 m a).2 = 0) <;> rfl
       subst hmb2
       repeat (first | refine jS ?_ | refine jD ?_ | refine jB ?_)
       rw [show decide (((3 * l.length : Nat) : Int) > 0) = false from hf (by omega)]
       repeat (first | refine jS ?_ | refine jD ?_ | refine jB ?_)
       exact jmeet rfl rfl
     ·by_cases e2 : mb.2 = 0
      ·have e1 : (lay1 m a).2 = 0 := by
        by_cases e1 : (lay1 m a).2 = 0
        ·exact e1
        ·rw [hf e1] at hmb; rw [hmb] at e2; exact absurd e2 e1
       rw [hx e1] at hmb
       simp only [cond_true] at hmb
       rw [hmb] at e2
       rw [layP_fine hb hrb e1 e2]
       obtain ⟨k1, k2, K⟩ := hlay e1 e2
       rw [← hmb] at K e2 ⊢
       clear hmb h1 h2 h3 hR1 htwoA htwoB hlay htwo hone
       rw [e2]
       generalize mb.1 = x at *
       have hbb : 0 < l.length → 1 ≤ base ∧ base ≤ 160 := fun h => by
        obtain ⟨q1, q2, q3⟩ : 1 ≤ base ∧ base ≤ m.words.length ∧ True := ⟨by omega, by omega, trivial⟩
        omega
       repeat (first | refine jS ?_ | refine jD ?_ | refine jB ?_)
       refine jad 12 3 1 rfl rfl rfl rfl ?_
       refine jfin 3 [1, 2, 3, 4, 8, 10, 12, 13, 91, 92, 93] true rfl rfl rfl (by show β0.length ≤ 3; rw [hβ]; decide) ?_
       refine jloop 3 (fun q : Nat => q ≤ l.length) [1, 2, 3, 4, 8, 10, 12, 13, 91, 92, 93] (fun q => [iv a, iv base, .sl (l.map encP), .ptr 0 0, .ptr 1 0, iv ((3 * l.length : Nat) : Int), .arr 2 (q + 1), iv (nxQ l.length base q), .sl (l.map encP), .v (.int .i64 ((l.map encP).length : Int)), .v (.int .i64 (q : Int))])
        (fun q => [.box 25 [.sl (x.words.map iv), .sl (x.tags.map iv)], .box 25 [.sl [], .sl []], .arr (q + 1) 3 1 ((chW l.length base (l.take q) 0).map iv)]) (fun q => l.length - q) 0 (by show β0.length ≤ 3; rw [hβ]; decide) (Nat.zero_le _) (by
         have : nxQ l.length base 0 = base := by unfold nxQ; rw [if_neg (by omega)]; omega
         show some _ = some _
         rw [this]; rfl) rfl (fun q hq => ?_)
       repeat (first | refine jS ?_ | refine jD ?_ | refine jB ?_)
       refine jc rfl rfl rfl (fun h => ?_) (fun h => ?_)
       ·have h := of_decide_eq_true h
        rw [List.length_map] at h
        have hq2 : q < l.length := by omega
        obtain ⟨b1, b2⟩ := hbb (by omega)
        have hidx : IntKind.i64.wrap ((q : Int) + 1) = ((q + 1 : Nat) : Int) := idx_next hq2 (by omega)
        have hnq : nxQ l.length base q = base + 3 * (q : Int) := by unfold nxQ; rw [if_neg (by omega)]
        have hnx : IntKind.i64.wrap (base + 3 * (q : Int) + 3) = base + 3 * ((q : Int) + 1) := by rw [wrap_id (by omega) (by omega)]; omega
        have hl1 : IntKind.i64.wrap ((((l.map encP).length : Nat) : Int) - 1) = (l.length : Int) - 1 := by rw [List.length_map, wrap_id (by omega) (by omega)]
        have hcs := chW_succ l.length base l hq2
        have hcl : (chW l.length base (l.take q) 0).length = 3 * q := by rw [chW_len, List.length_take]; omega
        rw [hnq]
        repeat (first | refine jS ?_ | refine jD ?_ | refine jB ?_ | refine jo rfl rfl (index_at rfl rfl rfl rfl rfl rfl rfl rfl (Int.natCast_nonneg q) h) rfl rfl ?_)
        rw [hnx, hl1]
        generalize at' l (q : Int) = pr at *
        obtain ⟨pk, pv⟩ := pr
        simp only at hcs
        by_cases hlast : q + 1 = l.length
        ·have hcx : chNx l.length base q = 0 := by unfold chNx; rw [if_pos hlast]
         have hnn : nxQ l.length base (q + 1) = 0 := by unfold nxQ; rw [if_pos ⟨hlast, by omega⟩]
         rw [show ((q : Int) == (l.length : Int) - 1) = true from by simp; omega]
         rw [hcx] at hcs
         repeat (first | refine jS ?_ | refine jD ?_ | refine jB ?_)
         refine jo rfl rfl (append_encs (enc := iv) (l := chW l.length base (l.take q) 0) (l2 := [pk, pv, 0]) rfl rfl rfl rfl rfl rfl rfl rfl rfl (fun x => ⟨rfl, rfl⟩) rfl (by rw [hcl]; show 3 * q + 3 ≤ _; omega) rfl rfl) rfl rfl ?_
         rw [← hcs]
         repeat (first | refine jS ?_ | refine jD ?_ | refine jB ?_)
         refine jnext (q + 1) hq2 (by omega) rfl rfl rfl ?_ rfl
         rw [hidx, hnn]; rfl
        ·have hcx : chNx l.length base q = base + 3 * ((q : Int) + 1) := by unfold chNx; rw [if_neg hlast]
         have hnn : nxQ l.length base (q + 1) = base + 3 * ((q : Int) + 1) := by unfold nxQ; rw [if_neg (by omega)]; omega
         rw [show ((q : Int) == (l.length : Int) - 1) = false from by simp; omega]
         rw [hcx] at hcs
         repeat (first | refine jS ?_ | refine jD ?_ | refine jB ?_)
         refine jo rfl rfl (append_encs (enc := iv) (l := chW l.length base (l.take q) 0) (l2 := [pk, pv, base + 3 * ((q : Int) + 1)]) rfl rfl rfl rfl rfl rfl rfl rfl rfl (fun x => ⟨rfl, rfl⟩) rfl (by rw [hcl]; show 3 * q + 3 ≤ _; omega) rfl rfl) rfl rfl ?_
         rw [← hcs]
         repeat (first | refine jS ?_ | refine jD ?_ | refine jB ?_)
         refine jnext (q + 1) hq2 (by omega) rfl rfl rfl ?_ rfl
         rw [hidx, hnn]; rfl
       ·have h := of_decide_eq_false h
        rw [List.length_map] at h
        have : q = l.length := by omega
        subst this
        rw [List.take_length]
        have hWl := chW_len l.length base l 0
        unfold chM
        have hbn : 0 < l.length → base = ((base.toNat : Nat) : Int) := fun h => by have := hbb h; omega
        have hch : chW l.length base l 0 = chW l.length ((base.toNat : Nat) : Int) l 0 := by
         rcases Nat.eq_zero_or_pos l.length with h0 | h0
         ·have : l = [] := List.length_eq_zero_iff.1 h0
          subst this; rfl
         ·rw [← hbn h0]
        rw [← hch]
        obtain ⟨b, hbe⟩ : ∃ b : Nat, b = base.toNat := ⟨_, rfl⟩
        obtain ⟨an, rfl⟩ : ∃ an : Nat, a = an := ⟨a.toNat, by omega⟩
        rw [show ((an : Int)).toNat = an from by omega] at K ⊢
        rw [← hbe] at K hbn ⊢
        clear hch hbe
        generalize hWW : chW l.length base l 0 = W at *
        refine jpub 12 rfl rfl rfl rfl ?_
        obtain ⟨K1, K2, K3, K4, K5, K6, K7, K8⟩ := K
        obtain ⟨xw, xt⟩ := x
        simp only at K1 K2 K3 K4 K5 K6 K7
        repeat (first | refine jS ?_ | refine jD ?_ | refine jB ?_)
        refine jloopI (fun q : Nat => q ≤ W.length ∧ mRight ⟨stL xw b (W.take q), xt⟩ = true) [1, 2, 4, 8, 10, 114, 115, 116] (fun q => [iv (an : Int), iv base, .ptr 0 0, .ptr 1 0, iv ((3 * l.length : Nat) : Int), .sl (W.map iv), .v (.int .i64 ((W.map iv).length : Int)), .v (.int .i64 (q : Int))])
         (fun q => [.box 25 [.sl ((stL xw b (W.take q)).map iv), .sl (xt.map iv)], .box 25 [.sl [], .sl []], .dead (l.length + 2)]) (fun q => W.length - q) 0 ⟨Nat.zero_le _, K1⟩ rfl rfl (fun q hq => ?_)
        obtain ⟨hq, hqr⟩ := hq
        repeat (first | refine jS ?_ | refine jD ?_ | refine jB ?_)
        refine jc rfl rfl rfl (fun h => ?_) (fun h => ?_)
        ·have h := of_decide_eq_true h
         rw [List.length_map] at h
         have hq2 : q < W.length := by omega
         have hl0 : 0 < l.length := by omega
         have hidx : IntKind.i64.wrap ((q : Int) + 1) = ((q + 1 : Nat) : Int) := idx_next hq2 (by omega)
         have hbw := hbb hl0
         have hbq : IntKind.i64.wrap (base + (q : Int)) = ((b + q : Nat) : Int) := by rw [wrap_id (by omega) (by omega)]; have := hbn hl0; omega
         have hsn := stL_snoc (W.take q) xw b (at' W (q : Int))
         rw [List.length_take, Nat.min_eq_left (Nat.le_of_lt hq2)] at hsn
         have htk : W.take (q + 1) = W.take q ++ [at' W (q : Int)] := by rw [List.take_succ_eq_append_getElem hq2, at_nat W q hq2]
         have hlen : (stL xw b (W.take q)).length = xw.length := stL_len _ _ _
         have hlt : b + q < (stL xw b (W.take q)).length := by rw [hlen]; rcases K6 with h | h <;> omega
         have hlive := K7 (b + q) (by omega) (by omega)
         have hst := store_ok ⟨stL xw b (W.take q), xt⟩ ((b + q : Nat) : Int) (at' W (q : Int)) hqr
         have hsl := store_live (m := ⟨stL xw b (W.take q), xt⟩) (q := b + q) (v := at' W (q : Int)) hlt hlive
         have hr2 := (mStore_right (k := ((b + q : Nat) : Int)) (v := at' W (q : Int)) hqr (use_live hlt hlive)).1
         rw [hsl] at hst hr2
         simp only at hst hr2
         rw [← hsn, ← htk] at hst hr2
         unfold encMem mCells ivs at hst
         repeat (first | refine jS ?_ | refine jD ?_ | refine jB ?_ | refine jo rfl rfl (index_at rfl rfl rfl rfl rfl rfl rfl rfl (Int.natCast_nonneg q) h) rfl rfl ?_)
         rw [hbq]
         repeat (first | refine jS ?_ | refine jD ?_ | refine jB ?_ | refine jV hst ?_)
         refine jnextI (q + 1) ⟨hq2, hr2⟩ ?_ rfl (by omega)
         show some _ = some _
         rw [hidx]
        ·have h := of_decide_eq_false h
         rw [List.length_map] at h
         have : q = W.length := by omega
         subst this
         rw [List.take_length] at hqr ⊢
         have hlen : (stL xw b W).length = xw.length := stL_len _ _ _
         have hst := fun v => store_ok ⟨stL xw b W, xt⟩ (an : Int) v hqr
         have hsl := fun v => store_live (m := ⟨stL xw b W, xt⟩) (q := an) (v := v) (by rw [hlen]; exact K4) K5
         unfold encMem mCells ivs at hst
         rcases Nat.eq_zero_or_pos l.length with h0 | h0
         ·have hl0 : l = [] := List.length_eq_zero_iff.1 h0
          have hst := hst 0
          rw [hsl] at hst
          rw [if_pos hl0]
          repeat (first | refine jS ?_ | refine jD ?_ | refine jB ?_)
          rw [show (((3 * l.length : Nat) : Int) == 0) = true from by rw [h0]; rfl]
          repeat (first | refine jS ?_ | refine jD ?_ | refine jB ?_ | refine jV hst ?_)
          exact jret [] true rfl rfl rfl ⟨rfl, rfl⟩
         ·have hl0 : l ≠ [] := List.length_pos_iff.1 h0
          have hst := hst base
          rw [hsl] at hst
          rw [if_neg hl0, ← hbn h0]
          repeat (first | refine jS ?_ | refine jD ?_ | refine jB ?_)
          rw [show (((3 * l.length : Nat) : Int) == 0) = false from by rw [beq_eq_false_iff_ne]; omega]
          repeat (first | refine jS ?_ | refine jD ?_ | refine jB ?_ | refine jV hst ?_)
          exact jret [] true rfl rfl rfl ⟨rfl, rfl⟩
      ·have hl : layP m a base l = (mem0, mb.2) := by
        by_cases e1 : (lay1 m a).2 = 0
        ·rw [hx e1] at hmb
         simp only [cond_true] at hmb
         rw [hmb] at e2 ⊢
         exact layP_two hb hrb e1 e2
        ·rw [hf e1] at hmb
         simp only [cond_false] at hmb
         rw [hmb]
         exact layP_one hb hrb e1
       rw [hl]
       have hne : (mb.2 != 0) = true := by rw [bne_iff_ne]; exact e2
       generalize mb.2 = e at *
       repeat (first | refine jS ?_ | refine jD ?_ | refine jB ?_)
       rw [hne]
       repeat (first | refine jS ?_ | refine jD ?_ | refine jB ?_)
       exact jret [] true rfl rfl rfl ⟨rfl, rfl⟩
end Go.AL
end
section
set_option maxRecDepth 100000
namespace Go.AL
open Go Go.Proofs
attribute [local irreducible] J
theorem rst1 {ws xt : List Int} {p : Nat} (v : Int) (hr : mRight ⟨ws, xt⟩ = true) (hp : p < ws.length) (hl : g0 xt p = 1) :
  ACalls Tryz.prog 115 [.agg [.sl (ws.map iv), .sl (xt.map iv)], .v (.int .i64 (p : Int)), .v (.int .i64 v)] [] (one (.tup [.agg [.sl ((ws.set p v).map iv), .sl (xt.map iv)], iv 0]) []) ∧ mRight ⟨ws.set p v, xt⟩ = true := by
 have h1 := rstore_ok ⟨ws, xt⟩ (p : Int) v hr
 have h2 := store_live (m := ⟨ws, xt⟩) (q := p) (v := v) hp hl
 have h3 := (mStore_right (k := (p : Int)) (v := v) hr (use_live hp hl)).1
 rw [h2] at h1 h3
 unfold encMem mCells ivs at h1
 exact ⟨h1, h3⟩
def chV (xw : List Int) (a b : Nat) (W : List Int) (q : Nat) : List Int := if q = 0 then xw else stL (xw.set a b) b (W.take (3 * q - 1))
theorem chV_len (xw : List Int) (a b : Nat) (W : List Int) (q : Nat) : (chV xw a b W q).length = xw.length := by
 unfold chV
 split
 ·rfl
 ·rw [stL_len, List.length_set]
theorem chW_at (n : Nat) (base : Int) (l : List Pr) {q : Nat} (h : q < l.length) : ∀ j, j < 3 → at' (chW n base l 0) ((3 * q + j : Nat) : Int) = at' [(at' l (q : Int)).1, (at' l (q : Int)).2, chNx n base q] (j : Int) := fun j hj => by
 have h1 : chW n base l 0 = chW n base (l.take (q + 1)) 0 ++ chW n base (l.drop (q + 1)) (q + 1) := by
  unfold chW
  conv => lhs; rw [← List.take_append_drop (q + 1) l, List.zipIdx_append, List.flatMap_append]
  rw [List.length_take, Nat.min_eq_left (show q + 1 ≤ l.length by omega)]
  simp
 have hl : (chW n base (l.take q) 0).length = 3 * q := by rw [chW_len, List.length_take]; omega
 rw [h1, chW_succ n base l h]
 have e : ∀ (L : List Int) (k : Nat), at' L (k : Int) = L.getD k default := fun L k => rfl
 rw [e, e]
 simp only [List.getD_eq_getElem?_getD]
 rw [List.append_assoc, List.getElem?_append_right (by omega), hl, show 3 * q + j - 3 * q = j by omega, List.getElem?_append_left (by simpa using hj)]
theorem stL_step (ws : List Int) (b : Nat) (W : List Int) {j : Nat} (h : j < W.length) : (stL ws b (W.take j)).set (b + j) (at' W (j : Int)) = stL ws b (W.take (j + 1)) := by
 rw [List.take_succ_eq_append_getElem h, stL_snoc, List.length_take, Nat.min_eq_left (Nat.le_of_lt h), at_nat W j h]
theorem rchain_ok (x : Mem) (a base : Int) (an b : Nat) (l : List Pr) (hl12 : l.length ≤ 12) (ha : a = an) (hbn : 0 < l.length → base = (b : Int) ∧ b ≤ 160) (K1 : mRight x = true) (K4 : an < x.words.length) (K5 : g0 x.tags an = 1) (K6 : 3 * l.length = 0 ∨ b + 3 * l.length ≤ x.words.length)
  (K7 : ∀ q, b ≤ q → q < b + 3 * l.length → g0 x.tags q = 1) (K8 : 3 * l.length = 0 ∨ an < b ∨ b + 3 * l.length ≤ an) :
  ACalls Tryz.prog 76 [encMem x, iv a, iv base, encPs l] [] (one (encMem (chM x an b l)) []) := by
 rw [chM_eq x K8]
 obtain ⟨xw, xt⟩ := x
 simp only at K4 K5 K6 K7 ⊢
 have h160 : xw.length ≤ 160 := ((mRight_iff _).1 K1).2.1
 have hWl := chW_len l.length (b : Int) l 0
 have hWa := fun q h => chW_at l.length (b : Int) l (q := q) h
 generalize hWW : chW l.length (b : Int) l 0 = W at *
 unfold encMem mCells ivs encPs
 refine jcalls Tryz.func76 rfl (by kernel_rfl) Tryz.ntmps76 rfl rfl (fun w0 β0 ext hβ => ?_)
 repeat (first | refine jS ?_ | refine jD ?_ | refine jB ?_)
 refine jfin 2 [2, 4, 8, 9, 14, 15, 16] true rfl rfl rfl (by show β0.length ≤ 2; rw [hβ]; decide) ?_
 refine jloop 2 (fun q : Nat => q ≤ l.length ∧ mRight ⟨chV xw an b W q, xt⟩ = true) [2, 4, 8, 9, 14, 15, 16] (fun q => [iv base, .ptr 0 0, .ptr 1 0, iv (if q = 0 then a else base + 3 * (q : Int) - 1), .sl (l.map encP), .v (.int .i64 ((l.map encP).length : Int)), .v (.int .i64 (q : Int))])
  (fun q => [.box 25 [.sl ((chV xw an b W q).map iv), .sl (xt.map iv)], .box 25 [.sl [], .sl []]]) (fun q => l.length - q) 0 (by show β0.length ≤ 2; rw [hβ]; decide) ⟨Nat.zero_le _, K1⟩ rfl rfl (fun q hq => ?_)
 obtain ⟨hq, hqr⟩ := hq
 repeat (first | refine jS ?_ | refine jD ?_ | refine jB ?_)
 refine jc rfl rfl rfl (fun h => ?_) (fun h => ?_)
 ·have h := of_decide_eq_true h
  rw [List.length_map] at h
  have hq2 : q < l.length := by omega
  obtain ⟨hb1, hb2⟩ := hbn (by omega)
  have hidx : IntKind.i64.wrap ((q : Int) + 1) = ((q + 1 : Nat) : Int) := idx_next hq2 (by omega)
  have w3 : IntKind.i64.wrap (base + IntKind.i64.wrap (3 * (q : Int))) = ((b + 3 * q : Nat) : Int) := by
   rw [wrap_id (n := 3 * (q : Int)) (by omega) (by omega), wrap_id (by omega) (by omega)]; omega
  have w4 : IntKind.i64.wrap (((b + 3 * q : Nat) : Int) + 1) = ((b + 3 * q + 1 : Nat) : Int) := by rw [wrap_id (by omega) (by omega)]; omega
  have w5 : IntKind.i64.wrap (((b + 3 * q : Nat) : Int) + 2) = base + 3 * ((q + 1 : Nat) : Int) - 1 := by rw [wrap_id (by omega) (by omega)]; omega
  have hfit : b + 3 * l.length ≤ xw.length := by omega
  obtain ⟨p, hp, hpv, hpl, hpt⟩ : ∃ p : Nat, (if q = 0 then a else base + 3 * (q : Int) - 1) = (p : Int) ∧ (chV xw an b W q).set p ((b + 3 * q : Nat) : Int) = stL (xw.set an b) b (W.take (3 * q)) ∧ p < xw.length ∧ g0 xt p = 1 := by
   by_cases h0 : q = 0
   ·subst h0
    refine ⟨an, by rw [if_pos rfl, ha], ?_, K4, K5⟩
    unfold chV
    rw [if_pos rfl]
    simp [stL]
   ·refine ⟨b + (3 * q - 1), by rw [if_neg h0]; omega, ?_, by omega, K7 _ (by omega) (by omega)⟩
    unfold chV
    rw [if_neg h0]
    have := stL_step (xw.set an b) b W (j := 3 * q - 1) (by omega)
    have hv := hWa (q - 1) (by omega) 2 (by omega)
    rw [show 3 * (q - 1) + 2 = 3 * q - 1 by omega] at hv
    have hv2 : at' W ((3 * q - 1 : Nat) : Int) = ((b + 3 * q : Nat) : Int) := by
     rw [hv]
     show chNx l.length (b : Int) (q - 1) = _
     unfold chNx
     rw [if_neg (by omega)]
     omega
    rw [hv2, show 3 * q - 1 + 1 = 3 * q by omega] at this
    exact this
  have hpL : p < (chV xw an b W q).length := by rw [chV_len]; exact hpl
  obtain ⟨s1, r1⟩ := rst1 (p := p) ((b + 3 * q : Nat) : Int) hqr hpL hpt
  rw [hpv] at s1 r1
  have hl1 : (stL (xw.set an b) b (W.take (3 * q))).length = xw.length := by rw [stL_len, List.length_set]
  have hk := hWa q hq2 0 (by omega)
  have hv := hWa q hq2 1 (by omega)
  have e1 := stL_step (xw.set an b) b W (j := 3 * q) (by omega)
  have e2 := stL_step (xw.set an b) b W (j := 3 * q + 1) (by omega)
  rw [show 3 * q + 0 = 3 * q from rfl] at hk
  obtain ⟨s2, r2⟩ := rst1 (p := b + 3 * q) (at' W ((3 * q : Nat) : Int)) r1 (by rw [hl1]; omega) (K7 _ (by omega) (by omega))
  rw [e1] at s2 r2
  have hl2 : (stL (xw.set an b) b (W.take (3 * q + 1))).length = xw.length := by rw [stL_len, List.length_set]
  obtain ⟨s3, r3⟩ := rst1 (p := b + 3 * q + 1) (at' W ((3 * q + 1 : Nat) : Int)) r2 (by rw [hl2]; omega) (K7 _ (by omega) (by omega))
  rw [show b + 3 * q + 1 = b + (3 * q + 1) from by omega, e2] at s3 r3
  rw [show b + (3 * q + 1) = b + 3 * q + 1 from by omega] at s3
  have hV : chV xw an b W (q + 1) = stL (xw.set an b) b (W.take (3 * q + 1 + 1)) := by unfold chV; rw [if_neg (by omega), show 3 * (q + 1) - 1 = 3 * q + 1 + 1 by omega]
  rw [← hV] at s3 r3
  rw [hk] at s2
  rw [hv] at s3
  rw [hp]
  repeat (first | refine jS ?_ | refine jD ?_ | refine jB ?_ | refine jo rfl rfl (index_at rfl rfl rfl rfl rfl rfl rfl rfl (Int.natCast_nonneg q) h) rfl rfl ?_)
  rw [w3]
  generalize at' l (q : Int) = pr at *
  obtain ⟨pk, pv⟩ := pr
  rw [show at' [(pk, pv).1, (pk, pv).2, chNx l.length (b : Int) q] ((0 : Nat) : Int) = pk from rfl] at s2
  rw [show at' [(pk, pv).1, (pk, pv).2, chNx l.length (b : Int) q] ((1 : Nat) : Int) = pv from rfl] at s3
  repeat (first | refine jS ?_ | refine jD ?_ | refine jB ?_ | refine jV s1 ?_)
  repeat (first | refine jS ?_ | refine jD ?_ | refine jB ?_ | refine jV s2 ?_)
  rw [w4]
  repeat (first | refine jS ?_ | refine jD ?_ | refine jB ?_ | refine jV s3 ?_)
  rw [w5]
  refine jnext (q + 1) ⟨hq2, r3⟩ (by omega) rfl rfl rfl ?_ rfl
  rw [hidx, if_neg (show ¬ q + 1 = 0 by omega)]; rfl
 ·have h := of_decide_eq_false h
  rw [List.length_map] at h
  have : q = l.length := by omega
  subst this
  obtain ⟨p, hp, hpv, hpl, hpt⟩ : ∃ p : Nat, (if l.length = 0 then a else base + 3 * (l.length : Int) - 1) = (p : Int) ∧ (chV xw an b W l.length).set p 0 = stL (xw.set an (if l = [] then 0 else (b : Int))) b W ∧ p < xw.length ∧ g0 xt p = 1 := by
   by_cases h0 : l.length = 0
   ·refine ⟨an, by rw [if_pos h0, ha], ?_, K4, K5⟩
    have hW0 : W = [] := List.length_eq_zero_iff.1 (by omega)
    unfold chV
    rw [if_pos h0, if_pos (List.length_eq_zero_iff.1 h0), hW0]
    rfl
   ·obtain ⟨hb1, hb2⟩ := hbn (by omega)
    refine ⟨b + (3 * l.length - 1), by rw [if_neg h0]; omega, ?_, by omega, K7 _ (by omega) (by omega)⟩
    unfold chV
    rw [if_neg h0, if_neg (by intro e; rw [e] at h0; exact h0 rfl)]
    have := stL_step (xw.set an b) b W (j := 3 * l.length - 1) (by omega)
    have hv := hWa (l.length - 1) (by omega) 2 (by omega)
    rw [show 3 * (l.length - 1) + 2 = 3 * l.length - 1 by omega] at hv
    have hv2 : at' W ((3 * l.length - 1 : Nat) : Int) = 0 := by
     rw [hv]
     show chNx l.length (b : Int) (l.length - 1) = _
     unfold chNx
     rw [if_pos (by omega)]
    rw [hv2, show 3 * l.length - 1 + 1 = W.length by omega, List.take_length] at this
    exact this
  obtain ⟨s1, r1⟩ := rst1 (p := p) 0 hqr (by rw [chV_len]; exact hpl) hpt
  rw [hpv] at s1
  rw [hp]
  repeat (first | refine jS ?_ | refine jD ?_ | refine jB ?_ | refine jV s1 ?_)
  exact jret [] true rfl rfl rfl ⟨rfl, rfl⟩
theorem rlay_ok (m : Mem) (a base : Int) (l : List Pr) (hR : mRight m = true) (hP : prsOk l = true) : ACalls Tryz.prog 37 [encMem m, iv a, iv base, encPs l] [] (one (.tup [encMem (layP m a base l).1, iv (layP m a base l).2]) []) := by
 have hb : (mRight m && prsOk l) = true := by rw [hR, hP]; rfl
 have hp12 : l.length ≤ 12 := by
  unfold prsOk at hP
  rw [Bool.and_eq_true] at hP
  exact of_decide_eq_true hP.2
 obtain ⟨s1, s2, s3, s4⟩ := (mRight_iff m).1 hR
 have hn : IntKind.i64.wrap (3 * (((l.map encP).length : Nat) : Int)) = ((3 * l.length : Nat) : Int) := by rw [List.length_map, wrap_id (by omega) (by omega)]; omega
 have hL : (((m.words.map iv).length : Nat) : Int) = (m.words.length : Int) := by rw [List.length_map]
 have hx : ∀ {p : Prop} [Decidable p], p → decide p = true := fun h => decide_eq_true h
 have hf : ∀ {p : Prop} [Decidable p], ¬ p → decide p = false := fun h => decide_eq_false h
 have hsub : 1 ≤ base → base ≤ m.words.length → IntKind.i64.wrap ((((m.words.map iv).length : Nat) : Int) - base) = (m.words.length : Int) - base := fun b1 b2 => by rw [hL, wrap_id (by omega) (by omega)]
 have h3 := rmark_ok m a 1 1 hR (.inl rfl)
 have hone : (lay1 m a) = mMark m a 1 1 := rfl
 have htwo : lay2 m a base (3 * l.length) = cond (decide (0 < 3 * l.length)) (mMark (lay1 m a).1 base (3 * l.length : Nat) 1) (lay1 m a) := rfl
 unfold encPs
 unfold encMem mCells ivs at *
 cases hrb : rngBad m.words.length a base (3 * l.length) with
 | true =>
  rw [layP_rng hb hrb]
  refine jcalls Tryz.func37 rfl (by kernel_rfl) Tryz.ntmps37 rfl rfl (fun w0 β0 ext hβ => ?_)
  repeat (first | refine jS ?_ | refine jD ?_ | refine jB ?_)
  rw [hn]
  by_cases c1 : a < 0
  ·rw [show decide (a < 0) = true from hx c1]
   repeat (first | refine jS ?_ | refine jD ?_ | refine jB ?_)
   exact jret [] true rfl rfl rfl ⟨rfl, rfl⟩
  rw [show decide (a < 0) = false from hf c1]
  repeat (first | refine jS ?_ | refine jD ?_ | refine jB ?_)
  rw [hL]
  by_cases c2 : a ≥ m.words.length
  ·rw [show decide (a ≥ (m.words.length : Int)) = true from hx c2]
   repeat (first | refine jS ?_ | refine jD ?_ | refine jB ?_)
   exact jret [] true rfl rfl rfl ⟨rfl, rfl⟩
  rw [show decide (a ≥ (m.words.length : Int)) = false from hf c2]
  unfold rngBad at hrb
  rw [hf c1, hf c2] at hrb
  simp only [Bool.false_or, Bool.and_eq_true, decide_eq_true_eq, Bool.or_eq_true] at hrb
  repeat (first | refine jS ?_ | refine jD ?_ | refine jB ?_)
  rw [show decide (((3 * l.length : Nat) : Int) > 0) = true from hx (by omega)]
  repeat (first | refine jS ?_ | refine jD ?_ | refine jB ?_)
  by_cases c3 : base < 1
  ·rw [show decide (base < 1) = true from hx c3]
   repeat (first | refine jS ?_ | refine jD ?_ | refine jB ?_)
   exact jret [] true rfl rfl rfl ⟨rfl, rfl⟩
  rw [show decide (base < 1) = false from hf c3]
  repeat (first | refine jS ?_ | refine jD ?_ | refine jB ?_)
  rw [hL]
  by_cases c4 : base > m.words.length
  ·rw [show decide (base > (m.words.length : Int)) = true from hx c4]
   repeat (first | refine jS ?_ | refine jD ?_ | refine jB ?_)
   exact jret [] true rfl rfl rfl ⟨rfl, rfl⟩
  rw [show decide (base > (m.words.length : Int)) = false from hf c4]
  repeat (first | refine jS ?_ | refine jD ?_ | refine jB ?_)
  rw [hsub (by omega) (by omega)]
  rw [show decide (((3 * l.length : Nat) : Int) > (m.words.length : Int) - base) = true from hx (by omega)]
  repeat (first | refine jS ?_ | refine jD ?_ | refine jB ?_)
  exact jret [] true rfl rfl rfl ⟨rfl, rfl⟩
 | false =>
  have hrb' := hrb
  unfold rngBad at hrb'
  simp only [Bool.or_eq_false_iff, Bool.and_eq_false_iff, decide_eq_false_iff_not] at hrb'
  obtain ⟨c1, c2, c3⟩ := hrb'
  have hR1 := mMark_right (m := m) (k := a) (n := 1) (tag := 1) hR (.inl rfl)
  rw [← hone] at h3 hR1
  have hlay := laid_ok (m := m) (a := a) (base := base) (n := 3 * l.length) hR
  have hfin : ∀ (e1 : (lay1 m a).2 = 0) (e2 : (lay2 m a base (3 * l.length)).2 = 0), ACalls Tryz.prog 76 [encMem (lay2 m a base (3 * l.length)).1, iv a, iv base, encPs l] [] (one (encMem (layP m a base l).1) []) ∧ (layP m a base l).2 = 0 := fun e1 e2 => by
   obtain ⟨k1, k2, K⟩ := hlay e1 e2
   rw [layP_fine hb hrb e1 e2]
   refine ⟨rchain_ok _ a base a.toNat base.toNat l hp12 (by omega) (fun h => ⟨by have := k2 (by omega); omega, ?_⟩) K.right K.at1 K.live K.fits K.row K.apart, rfl⟩
   have := K.fits
   have := ((mRight_iff _).1 K.right).2.1
   omega
  unfold encPs encMem mCells ivs at hfin
  by_cases e1 : (lay1 m a).2 = 0
  ·by_cases hn0 : 0 < 3 * l.length
   ·have hh : lay2 m a base (3 * l.length) = mMark (lay1 m a).1 base ((3 * l.length : Nat) : Int) 1 := by rw [htwo, hx hn0]; rfl
    have h4 := rmark_ok (lay1 m a).1 base ((3 * l.length : Nat) : Int) 1 (hR1 e1).1 (.inl rfl)
    unfold encMem mCells ivs at h4
    rw [← hh] at h4
    have hfin := hfin e1
    by_cases e2 : (lay2 m a base (3 * l.length)).2 = 0
    ·obtain ⟨h5, e5⟩ := hfin e2
     rw [e5]
     rw [e1] at h3
     rw [e2] at h4
     generalize (layP m a base l).1 = y at *
     generalize (lay2 m a base (3 * l.length)).1 = x2 at *
     generalize (lay1 m a).1 = x1 at *
     clear hfin hlay hR1 htwo hone hh
     refine jcalls Tryz.func37 rfl (by kernel_rfl) Tryz.ntmps37 rfl rfl (fun w0 β0 ext hβ => ?_)
     repeat (first | refine jS ?_ | refine jD ?_ | refine jB ?_)
     rw [hn]
     rw [show decide (a < 0) = false from hf c1]
     repeat (first | refine jS ?_ | refine jD ?_ | refine jB ?_)
     rw [hL]
     rw [show decide (a ≥ (m.words.length : Int)) = false from hf c2]
     repeat (first | refine jS ?_ | refine jD ?_ | refine jB ?_)
     rw [show decide (((3 * l.length : Nat) : Int) > 0) = true from hx (by omega)]
     repeat (first | refine jS ?_ | refine jD ?_ | refine jB ?_)
     rw [show decide (base < 1) = false from hf (by omega)]
     repeat (first | refine jS ?_ | refine jD ?_ | refine jB ?_)
     rw [hL]
     rw [show decide (base > (m.words.length : Int)) = false from hf (by omega)]
     repeat (first | refine jS ?_ | refine jD ?_ | refine jB ?_)
     rw [hsub (by omega) (by omega)]
     rw [show decide (((3 * l.length : Nat) : Int) > (m.words.length : Int) - base) = false from hf (by omega)]
     repeat (first | refine jS ?_ | refine jD ?_ | refine jB ?_ | refine jV h3 ?_)
     rw [show decide (((3 * l.length : Nat) : Int) > 0) = true from hx (by omega)]
     repeat (first | refine jS ?_ | refine jD ?_ | refine jB ?_ | refine jV h4 ?_ | refine jV h5 ?_)
     exact jret [] true rfl rfl rfl ⟨rfl, rfl⟩
    ·rw [layP_two hb hrb e1 e2]
     rw [e1] at h3
     have hne : ((lay2 m a base (3 * l.length)).2 != 0) = true := by rw [bne_iff_ne]; exact e2
     generalize (lay2 m a base (3 * l.length)).1 = x2 at *
     generalize (lay2 m a base (3 * l.length)).2 = e at *
     generalize (lay1 m a).1 = x1 at *
     clear hfin hlay hR1 htwo hone hh
     refine jcalls Tryz.func37 rfl (by kernel_rfl) Tryz.ntmps37 rfl rfl (fun w0 β0 ext hβ => ?_)
     repeat (first | refine jS ?_ | refine jD ?_ | refine jB ?_)
     rw [hn]
     rw [show decide (a < 0) = false from hf c1]
     repeat (first | refine jS ?_ | refine jD ?_ | refine jB ?_)
     rw [hL]
     rw [show decide (a ≥ (m.words.length : Int)) = false from hf c2]
     repeat (first | refine jS ?_ | refine jD ?_ | refine jB ?_)
     rw [show decide (((3 * l.length : Nat) : Int) > 0) = true from hx (by omega)]
     repeat (first | refine jS ?_ | refine jD ?_ | refine jB ?_)
     rw [show decide (base < 1) = false from hf (by omega)]
     repeat (first | refine jS ?_ | refine jD ?_ | refine jB ?_)
     rw [hL]
     rw [show decide (base > (m.words.length : Int)) = false from hf (by omega)]
     repeat (first | refine jS ?_ | refine jD ?_ | refine jB ?_)
     rw [hsub (by omega) (by omega)]
     rw [show decide (((3 * l.length : Nat) : Int) > (m.words.length : Int) - base) = false from hf (by omega)]
     repeat (first | refine jS ?_ | refine jD ?_ | refine jB ?_ | refine jV h3 ?_)
     rw [show decide (((3 * l.length : Nat) : Int) > 0) = true from hx (by omega)]
     repeat (first | refine jS ?_ | refine jD ?_ | refine jB ?_ | refine jV h4 ?_)
     rw [hne]
     repeat (first | refine jS ?_ | refine jD ?_ | refine jB ?_)
     exact jret [] true rfl rfl rfl ⟨rfl, rfl⟩
   ·have hh : lay2 m a base (3 * l.length) = lay1 m a := by rw [htwo, hf hn0]; rfl
    obtain ⟨h5, e5⟩ := hfin e1 (by rw [hh]; exact e1)
    rw [e5]
    rw [e1] at h3
    rw [hh] at h5
    generalize (layP m a base l).1 = y at *
    generalize (lay1 m a).1 = x1 at *
    clear hfin hlay hR1 htwo hone hh
    refine jcalls Tryz.func37 rfl (by kernel_rfl) Tryz.ntmps37 rfl rfl (fun w0 β0 ext hβ => ?_)
    repeat (first | refine jS ?_ | refine jD ?_ | refine jB ?_)
    rw [hn]
    rw [show decide (a < 0) = false from hf c1]
    repeat (first | refine jS ?_ | refine jD ?_ | refine jB ?_)
    rw [hL]
    rw [show decide (a ≥ (m.words.length : Int)) = false from hf c2]
    repeat (first | refine jS ?_ | refine jD ?_ | refine jB ?_)
    rw [show decide (((3 * l.length : Nat) : Int) > 0) = false from hf (by omega)]
    repeat (first | refine jS ?_ | refine jD ?_ | refine jB ?_ | refine jV h3 ?_)
    rw [show decide (((3 * l.length : Nat) : Int) > 0) = false from hf (by omega)]
    repeat (first | refine jS ?_ | refine jD ?_ | refine jB ?_ | refine jV h5 ?_)
    exact jret [] true rfl rfl rfl ⟨rfl, rfl⟩
  ·rw [layP_one hb hrb e1]
   have hne : ((lay1 m a).2 != 0) = true := by rw [bne_iff_ne]; exact e1
   generalize (lay1 m a).1 = x1 at *
   generalize (lay1 m a).2 = e at *
   clear hfin hlay hR1 htwo hone
   by_cases hn0 : 0 < 3 * l.length
   ·refine jcalls Tryz.func37 rfl (by kernel_rfl) Tryz.ntmps37 rfl rfl (fun w0 β0 ext hβ => ?_)
    repeat (first | refine jS ?_ | refine jD ?_ | refine jB ?_)
    rw [hn]
    rw [show decide (a < 0) = false from hf c1]
    repeat (first | refine jS ?_ | refine jD ?_ | refine jB ?_)
    rw [hL]
    rw [show decide (a ≥ (m.words.length : Int)) = false from hf c2]
    repeat (first | refine jS ?_ | refine jD ?_ | refine jB ?_)
    rw [show decide (((3 * l.length : Nat) : Int) > 0) = true from hx (by omega)]
    repeat (first | refine jS ?_ | refine jD ?_ | refine jB ?_)
    rw [show decide (base < 1) = false from hf (by omega)]
    repeat (first | refine jS ?_ | refine jD ?_ | refine jB ?_)
    rw [hL]
    rw [show decide (base > (m.words.length : Int)) = false from hf (by omega)]
    repeat (first | refine jS ?_ | refine jD ?_ | refine jB ?_)
    rw [hsub (by omega) (by omega)]
    rw [show decide (((3 * l.length : Nat) : Int) > (m.words.length : Int) - base) = false from hf (by omega)]
    repeat (first | refine jS ?_ | refine jD ?_ | refine jB ?_ | refine jV h3 ?_)
    rw [hne]
    repeat (first | refine jS ?_ | refine jD ?_ | refine jB ?_)
    exact jret [] true rfl rfl rfl ⟨rfl, rfl⟩
   ·refine jcalls Tryz.func37 rfl (by kernel_rfl) Tryz.ntmps37 rfl rfl (fun w0 β0 ext hβ => ?_)
    repeat (first | refine jS ?_ | refine jD ?_ | refine jB ?_)
    rw [hn]
    rw [show decide (a < 0) = false from hf c1]
    repeat (first | refine jS ?_ | refine jD ?_ | refine jB ?_)
    rw [hL]
    rw [show decide (a ≥ (m.words.length : Int)) = false from hf c2]
    repeat (first | refine jS ?_ | refine jD ?_ | refine jB ?_)
    rw [show decide (((3 * l.length : Nat) : Int) > 0) = false from hf (by omega)]
    repeat (first | refine jS ?_ | refine jD ?_ | refine jB ?_ | refine jV h3 ?_)
    rw [hne]
    repeat (first | refine jS ?_ | refine jD ?_ | refine jB ?_)
    exact jret [] true rfl rfl rfl ⟨rfl, rfl⟩
end Go.AL
end
section
set_option maxRecDepth 100000
namespace Go.AL
open Go Go.Proofs
attribute [local irreducible] J
theorem stL_full : ∀ (xs ws : List Int) (k : Nat), k + xs.length = ws.length → stL ws k xs = ws.take k ++ xs
 | [], ws, k, h => by
  have h : k = ws.length := by simpa using h
  subst h
  rw [List.take_length, List.append_nil]; rfl
 | x :: xs, ws, k, h => by
  have hk : k < ws.length := by simp at h; omega
  show stL (ws.set k x) (k + 1) xs = _
  rw [stL_full xs _ _ (by simp at h ⊢; omega), List.take_succ_eq_append_getElem (by simpa using hk), List.getElem_set_self, List.take_set_of_le (Nat.le_refl _)]
  simp
def layM (l : List Pr) : Mem := ⟨0 :: (if l = [] then 0 else 2) :: chW l.length 2 l 0, 0 :: List.replicate (3 * l.length + 1) 1⟩
theorem lay_marks : ∀ n : Nat, n < 13 → rngBad (2 + 3 * n) 1 2 (3 * n) = false ∧ (lay1 ⟨List.replicate (2 + 3 * n) 0, List.replicate (2 + 3 * n) 0⟩ 1).2 = 0 ∧ (lay2 ⟨List.replicate (2 + 3 * n) 0, List.replicate (2 + 3 * n) 0⟩ 1 2 (3 * n)).2 = 0 ∧
  (lay2 ⟨List.replicate (2 + 3 * n) 0, List.replicate (2 + 3 * n) 0⟩ 1 2 (3 * n)).1.words = List.replicate (2 + 3 * n) 0 ∧ (lay2 ⟨List.replicate (2 + 3 * n) 0, List.replicate (2 + 3 * n) 0⟩ 1 2 (3 * n)).1.tags = 0 :: List.replicate (3 * n + 1) 1 ∧
  mRight ⟨List.replicate (2 + 3 * n) 0, List.replicate (2 + 3 * n) 0⟩ = true := by decide +kernel
theorem layM_eq {l : List Pr} (hP : prsOk l = true) : layP ⟨List.replicate (2 + 3 * l.length) 0, List.replicate (2 + 3 * l.length) 0⟩ 1 2 l = (layM l, 0) ∧ mRight ⟨List.replicate (2 + 3 * l.length) 0, List.replicate (2 + 3 * l.length) 0⟩ = true := by
 have hp12 : l.length ≤ 12 := by
  unfold prsOk at hP
  rw [Bool.and_eq_true] at hP
  exact of_decide_eq_true hP.2
 obtain ⟨e1, e2, e3, e4, e5, e6⟩ := lay_marks l.length (by omega)
 refine ⟨?_, e6⟩
 rw [layP_fine (by rw [e6, hP]; rfl) (by show rngBad (List.replicate (2 + 3 * l.length) (0 : Int)).length 1 2 (3 * l.length) = false; rw [List.length_replicate]; exact e1) e2 e3]
 generalize (lay2 ⟨List.replicate (2 + 3 * l.length) 0, List.replicate (2 + 3 * l.length) 0⟩ 1 2 (3 * l.length)).1 = x at *
 obtain ⟨xw, xt⟩ := x
 simp only at e4 e5
 subst e4 e5
 unfold chM layM
 have hW := chW_len l.length 2 l 0
 show ((⟨(stL (List.replicate (2 + 3 * l.length) 0) 2 (chW l.length 2 l 0)).set 1 (if l = [] then 0 else 2), _⟩ : Mem), (0 : Int)) = _
 rw [stL_full _ _ _ (by rw [hW, List.length_replicate])]
 congr 2
 rw [show List.replicate (2 + 3 * l.length) (0 : Int) = 0 :: 0 :: List.replicate (3 * l.length) 0 from by rw [show 2 + 3 * l.length = (3 * l.length + 1) + 1 by omega]; rfl]
 rfl
theorem layM_right {l : List Pr} (hl : l.length ≤ 12) : mRight (layM l) = true := by
 have hW := chW_len l.length 2 l 0
 unfold layM
 generalize chW l.length 2 l 0 = W at *
 unfold mRight
 simp only [List.length_cons, List.length_replicate]
 rw [decide_eq_true (by omega), decide_eq_true (by omega), decide_eq_true (by omega), List.zip_cons_cons, List.all_cons]
 simp only [Bool.true_and]
 rw [show tagOk 0 0 = true by decide, Bool.true_and, List.all_eq_true]
 intro p hp
 have := List.eq_of_mem_replicate (List.of_mem_zip hp).1
 unfold tagOk
 rw [this]; rfl
theorem layM_len (l : List Pr) : (layM l).words.length = 2 + 3 * l.length ∧ (layM l).tags.length = 2 + 3 * l.length := by
 unfold layM
 have hW := chW_len l.length 2 l 0
 simp only [List.length_cons, List.length_replicate]
 omega
def chT0 : Bs := [102,105,110,100,58,10,108,111,97,100,32,114,48,32,114,48,32,48,10,102,105,110,100,49,58,10,122,101,114,111,32,114,48,32,102,111,117,110,100,10,108,111,97,100,32,114,50,32,114,48,32,48,10,115,117,98,32,114,50,32,114,50,32,114,49,10,122,101,114,111,32,114,50,32,102,111,117,110,100,10,108,111,97,100,32,114,48,32,114,48,32,50,10,106,117,109,112,32,102,105,110,100,49,10,102,111,117,110,100,58,10,114,101,116,10,115,101,101,107,58,10,108,111,97,100,32,114,50,32,114,48,32,48,10,122,101,114,111,32,114,50,32,115,111,117,103,104,116,10,108,111,97,100,32,114,51,32,114,50,32,48,10,115,117,98,32,114,51,32,114,51,32,114,49,10,122,101,114,111,32,114,51,32,115,111,117,103,104,116,10,112,108,117,115,32,114,48,32,114,50,32,50,10,106,117,109,112,32,115,101,101,107,10,115,111,117,103,104,116,58,10,114,101,116,10,116,48,58,10]
def sA : Bs := [115,101,116,32,114,48,32]
def sB : Bs := [10,115,101,116,32,114,49,32]
def sC : Bs := [99,97,108,108,32,102,105,110,100,10,109,97,114,107,32,54,10]
def sD : Bs := [99,97,108,108,32,115,101,101,107,10,109,97,114,107,32,55,10]
def sE : Bs := [115,101,116,32,114,48,32,49,10,115,101,116,32,114,49,32]
def sH : Bs := [104,97,108,116,10]
theorem chT0_eq : ltx chC = chT0 := by decide +kernel
theorem sH_eq : ltx kH = sH := by decide +kernel
theorem itoa_one : Lib.itoa 1 = [49] := by decide +kernel
def setS (k : Int) : Bs := sE ++ Lib.itoa k ++ [10]
theorem key_txt (k : Int) : ltx (keyLn k) = ((setS k ++ sC) ++ setS k) ++ sD := by
 unfold keyLn
 rw [ltx_app, ltx_cons, ltx_app, ltx_cons]
 rw [show ltx kA = [115,101,116,32,114,48,32,49,10] by decide, show ltx kB = sC ++ [115,101,116,32,114,48,32,49,10] by decide, show ltx kC = sD by decide]
 unfold setS setK sE
 simp
theorem setS_p (k : Int) : ((((sA ++ Lib.itoa 1) ++ sB) ++ Lib.itoa k) ++ [10]) = setS k := by
 rw [itoa_one]; rfl
def chS (ks : List Int) (k : Nat) : Bs := chT0 ++ ltx ((ks.take k).flatMap keyLn)
theorem chS_succ (ks : List Int) {k : Nat} (h : k < ks.length) : chS ks (k + 1) = chS ks k ++ (((setS (at' ks (k : Int)) ++ sC) ++ setS (at' ks (k : Int))) ++ sD) := by
 unfold chS
 rw [List.take_succ_eq_append_getElem h, List.flatMap_append, ltx_app, at_nat ks k h, ← key_txt]
 simp
def chTx (ks : List Int) : Bs := ltx (chLn ks)
theorem chS_all (ks : List Int) : chS ks ks.length ++ sH = chTx ks := by
 unfold chS chTx chLn
 rw [List.take_length, ltx_app, ltx_app, chT0_eq, sH_eq, List.append_assoc]
theorem setS_len {k : Int} (h : bd k) : (setS k).length ≤ 30 := by
 have := itoa_len h
 unfold setS
 rw [List.length_append, List.length_append]
 have : sE.length = 16 := by decide
 simp only [List.length_cons, List.length_nil]
 omega
theorem chS_len (ks : List Int) (k : Nat) (h : ∀ x ∈ ks.take k, bd x) (hl : ks.length ≤ 1000) : (chS ks k).length ≤ 100000 := by
 unfold chS
 have := flatL keyLn 90 (ks.take k) fun x hx => key_len (h x hx)
 have h2 : (ks.take k).length ≤ ks.length := by rw [List.length_take]; omega
 have : chT0.length ≤ 1000 := by decide +kernel
 rw [List.length_append]
 omega
theorem keysOk_bd {ks : List Int} (h : keysOk ks = true) : ∀ k ∈ ks, bd k := fun k hk => inn_iff.1 (List.all_eq_true.1 h k hk)
def wch0 (l : List Pr) (ks : List Int) (d : Int) : Wd × Int :=
 cond (keysOk ks && prsOk l) (cond (decide (ks.length ≤ 16)) (newW (chCode ks) (rst (chTx ks) [[116, 48]]) (layM l) d) (wd0, 2)) (wd0, 1)
set_option maxHeartbeats 4000000 in
theorem chworld_ok (g : Gl) (l : List Pr) (ks : List Int) (d : Int) (hl : l.length ≤ 1000000) (hk : ks.length ≤ 20) : ACalls Tryz.prog 17 [encPs l, ivs ks, iv d] (gls g) (one (.tup [encWd (wch0 l ks d).1, iv (wch0 l ks d).2]) (gls g)) := by
 have hw0 := wstr_ok false [] chT0 (by decide +kernel) (by decide +kernel)
 have hit := fun k => itoa_ok g k
 have hi1 := itoa_ok g 1 (by decide) (by decide)
 have hmy := may_ok l hl
 have hS0 : chS ks 0 = chT0 := by unfold chS; simp [ltx]
 rw [List.nil_append, ← hS0] at hw0
 unfold encPs ivs at *
 unfold bld bldH adr at hw0
 unfold gls at *
 refine jcalls Tryz.func17 rfl (by kernel_rfl) Tryz.ntmps17 rfl rfl (fun w0 β0 ext hβ => ?_)
 repeat (first | refine jadB 5 1 5 1 rfl rfl rfl rfl ?_ | refine jS ?_ | refine jD ?_ | refine jB ?_)
 refine jb [5,6] hw0 rfl rfl rfl ⟨rfl, rfl, rfl, rfl, rfl, rfl⟩ rfl rfl rfl rfl ?_
 repeat (first | refine jS ?_ | refine jD ?_ | refine jB ?_)
 clear hw0
 refine jfin 7 [0, 2, 6, 8, 15, 16, 17, 1] true rfl rfl rfl (by show β0.length ≤ 7; rw [hβ]; exact (by decide : 4 ≤ 7)) ?_
 refine jloop 7 (fun k : Nat => k ≤ ks.length ∧ ((ks.take k).all fun n => inn n (-1000000000) 1000000000) = true) [0, 2, 6, 8, 15, 16, 17, 1] (fun k => [.sl (l.map encP), iv d, .ptr 4 0, .ptr 5 0, .sl (ks.map iv), .v (.int .i64 ((ks.map iv).length : Int)), .v (.int .i64 (k : Int)), .sl (ks.map iv)])
  (fun k => [g.a, g.b, g.c, g.d, .box 33 [.sl [], .sl [], .sl [], iv 0, .sl [], .sl [], .sl []], .box 111 [.ptr 5 0, .arr 6 ((chS ks k).length + 1)], .arr ((chS ks k).length + 1) 5 1 ((chS ks k).map encB)]) (fun k => ks.length - k) 0 (by show β0.length ≤ 7; rw [hβ]; exact (by decide : 4 ≤ 7)) ⟨Nat.zero_le _, rfl⟩ rfl rfl (fun k hk => ?_)
 obtain ⟨hk, hok⟩ := hk
 repeat (first | refine jS ?_ | refine jD ?_ | refine jB ?_)
 refine jc rfl rfl rfl (fun h => ?_) (fun h => ?_)
 ·have h := of_decide_eq_true h
  rw [List.length_map] at h
  have hk2 : k < ks.length := by omega
  have hidx : IntKind.i64.wrap ((k : Int) + 1) = ((k + 1 : Nat) : Int) := idx_next hk2 (by omega)
  have hm := at_mem hk2
  have htk : (ks.take (k + 1)).all (fun n => inn n (-1000000000) 1000000000) = inn (at' ks (k : Int)) (-1000000000) 1000000000 := by
   rw [List.take_succ_eq_append_getElem hk2, List.all_append, hok, at_nat ks k hk2]; simp
  have hno : inn (at' ks (k : Int)) (-1000000000) 1000000000 = false → wch0 l ks d = (wd0, 1) := fun e => by
   unfold wch0
   rw [show keysOk ks = false from by unfold keysOk; rw [List.all_eq_false]; exact ⟨_, hm, by rw [e]; decide⟩]; rfl
  have hsu := chS_succ ks hk2
  have hB := chS_len ks k (fun x hx => inn_iff.1 (List.all_eq_true.1 hok x hx)) (by omega)
  repeat (first | refine jS ?_ | refine jD ?_ | refine jB ?_ | refine jo rfl rfl (index_at rfl rfl rfl rfl rfl rfl rfl rfl (Int.natCast_nonneg k) h) rfl rfl ?_)
  generalize at' ks (k : Int) = v at *
  by_cases c1 : v < -1000000000
  ·rw [show decide (v < -1000000000) = true from decide_eq_true c1]
   rw [hno (by cases e : inn v (-1000000000) 1000000000 with
    | false => rfl
    | true => have := (inn_iff.1 e).1; omega)]
   unfold encWd wCells ivs
   repeat (first | refine jS ?_ | refine jD ?_ | refine jB ?_)
   exact jret [] true rfl rfl rfl ⟨rfl, rfl⟩
  rw [show decide (v < -1000000000) = false from decide_eq_false c1]
  repeat (first | refine jS ?_ | refine jD ?_ | refine jB ?_)
  by_cases c2 : v > 1000000000
  ·rw [show decide (v > 1000000000) = true from decide_eq_true c2]
   rw [hno (by cases e : inn v (-1000000000) 1000000000 with
    | false => rfl
    | true => have := (inn_iff.1 e).2; omega)]
   unfold encWd wCells ivs
   repeat (first | refine jS ?_ | refine jD ?_ | refine jB ?_)
   exact jret [] true rfl rfl rfl ⟨rfl, rfl⟩
  rw [show decide (v > 1000000000) = false from decide_eq_false c2]
  have hbd : bd v := ⟨by omega, by omega⟩
  have hok2 : (ks.take (k + 1)).all (fun n => inn n (-1000000000) 1000000000) = true := by rw [htk]; exact inn_iff.2 hbd
  clear htk hno
  have hit := hit v (by omega) (by omega)
  have hil := itoa_len hbd
  have hsl := setS_len hbd
  have hsp := setS_p v
  have hi1l : (Lib.itoa 1).length = 1 := by rw [itoa_one]; rfl
  have l1 : sA.length = 7 := by decide
  have l2 : sB.length = 8 := by decide
  have l3 : sC.length = 17 := by decide
  have l4 : sD.length = 17 := by decide
  generalize chS ks k = C at *
  have hw1 := wstr_ok true C (((setS v ++ sC) ++ setS v) ++ sD) (by simp only [List.length_append]; omega) (by simp only [List.length_append]; omega)
  rw [← hsu] at hw1
  unfold bld bldH adr at hw1
  repeat (first | refine jS ?_ | refine jD ?_ | refine jB ?_)
  refine jb [0,1,2,3] hi1 rfl rfl rfl ⟨rfl, rfl, rfl, rfl, rfl, rfl⟩ rfl rfl rfl rfl ?_
  refine jo rfl rfl (cat_str (a := sA) (b := Lib.itoa 1) rfl rfl (by omega)) rfl rfl ?_
  repeat (first | refine jS ?_ | refine jD ?_ | refine jB ?_)
  refine jo rfl rfl (cat_str (a := sA ++ Lib.itoa 1) (b := sB) rfl rfl (by simp only [List.length_append]; omega)) rfl rfl ?_
  repeat (first | refine jS ?_ | refine jD ?_ | refine jB ?_)
  refine jb [0,1,2,3] hit rfl rfl rfl ⟨rfl, rfl, rfl, rfl, rfl, rfl⟩ rfl rfl rfl rfl ?_
  refine jo rfl rfl (cat_str (a := (sA ++ Lib.itoa 1) ++ sB) (b := Lib.itoa v) rfl rfl (by simp only [List.length_append]; omega)) rfl rfl ?_
  repeat (first | refine jS ?_ | refine jD ?_ | refine jB ?_)
  refine jo rfl rfl (cat_str (a := ((sA ++ Lib.itoa 1) ++ sB) ++ Lib.itoa v) (b := [10]) rfl rfl (by simp only [List.length_append, List.length_cons, List.length_nil]; omega)) rfl rfl ?_
  rw [hsp]
  generalize setS v = SS at *
  repeat (first | refine jS ?_ | refine jD ?_ | refine jB ?_)
  refine jo rfl rfl (cat_str (a := SS) (b := sC) rfl rfl (by omega)) rfl rfl ?_
  repeat (first | refine jS ?_ | refine jD ?_ | refine jB ?_)
  refine jo rfl rfl (cat_str (a := SS ++ sC) (b := SS) rfl rfl (by simp only [List.length_append]; omega)) rfl rfl ?_
  repeat (first | refine jS ?_ | refine jD ?_ | refine jB ?_)
  refine jo rfl rfl (cat_str (a := (SS ++ sC) ++ SS) (b := sD) rfl rfl (by simp only [List.length_append]; omega)) rfl rfl ?_
  repeat (first | refine jS ?_ | refine jD ?_ | refine jB ?_)
  refine jb [5,6] hw1 rfl rfl rfl ⟨rfl, rfl, rfl, rfl, rfl, rfl⟩ rfl rfl rfl rfl ?_
  repeat (first | refine jS ?_ | refine jD ?_ | refine jB ?_)
  refine jnext (k + 1) ⟨hk2, hok2⟩ (by omega) rfl rfl rfl ?_ rfl
  rw [hidx]; rfl
 ·have h := of_decide_eq_false h
  rw [List.length_map] at h
  have : k = ks.length := by omega
  subst this
  have hB := chS_len ks ks.length (fun x hx => inn_iff.1 (List.all_eq_true.1 hok x hx)) (by omega)
  rw [List.take_length] at hok
  have hkeys : keysOk ks = true := hok
  have hall := chS_all ks
  have hw2 := wstr_ok true (chS ks ks.length) sH (by decide) (Nat.le_trans (Nat.add_le_add hB (show sH.length ≤ 10 by decide)) (by decide))
  rw [hall] at hw2
  generalize chS ks ks.length = C at *
  unfold bld bldH adr at hw2
  repeat (first | refine jS ?_ | refine jD ?_ | refine jB ?_)
  refine jb [5,6] hw2 rfl rfl rfl ⟨rfl, rfl, rfl, rfl, rfl, rfl⟩ rfl rfl rfl rfl ?_
  have hTl : (chTx ks).length ≤ 200000 := by
   rw [← hall]
   exact Nat.le_trans (Nat.le_of_eq (List.length_append ..)) (Nat.le_trans (Nat.add_le_add hB (show sH.length ≤ 10 by decide)) (by decide))
  clear hw2 hall hB
  cases hP : prsOk l with
  | false =>
   have e0 : wch0 l ks d = (wd0, 1) := by unfold wch0; rw [hP, Bool.and_false]; rfl
   rw [e0]
   rw [hP] at hmy
   unfold encWd wCells ivs
   repeat (first | refine jS ?_ | refine jD ?_ | refine jB ?_ | refine jV hmy ?_)
   exact jret [] true rfl rfl rfl ⟨rfl, rfl⟩
  | true =>
   rw [hP] at hmy
   by_cases c16 : ks.length ≤ 16
   ·have e0 : wch0 l ks d = newW (chCode ks) (rst (chTx ks) [[116, 48]]) (layM l) d := by unfold wch0; rw [hP, hkeys, decide_eq_true c16]; rfl
    rw [e0]
    have hp12 : l.length ≤ 12 := by
     unfold prsOk at hP
     rw [Bool.and_eq_true] at hP
     exact of_decide_eq_true hP.2
    obtain ⟨ly1, ly2⟩ := layM_eq hP
    have hmr := layM_right hp12
    have hml := layM_len l
    have h3 := mnew_ok (2 + 3 * l.length) (by omega) (by omega)
    have h4 := clay_ok ⟨List.replicate (2 + 3 * l.length) 0, List.replicate (2 + 3 * l.length) 0⟩ 1 2 l (by simp; omega) (by simp; omega) hl
    rw [ly1] at h4
    have hpr := ch_parse ks (keysOk_bd hkeys) (by omega)
    have hwh := ch_where ks (keysOk_bd hkeys) (by omega)
    rw [show ltx (chLn ks) = chTx ks from rfl] at hpr hwh
    have hp0 : (rparse (chTx ks)).2.2 = 0 := by rw [hpr]
    obtain ⟨z1, z2⟩ := rst_eq hp0 [[116, 48]]
    have hne : chTx ks ≠ [] := by
     intro e
     rw [e] at hwh
     exact absurd hwh (by decide +kernel)
    have h5 := snew_ok g (chTx ks) [[116, 48]] (layM l) d (by have := ch_len ks (keysOk_bd hkeys) (by omega); show (ltx (chLn ks)).length ≤ _; omega) (by decide) (by omega) (by rw [parse_eq]; exact hp0) (by intro x hx; simp at hx; subst hx; rw [hwh]) (by rw [parse_eq, hpr]; have := parse_right hp0; unfold rightC at this; rw [hpr, Bool.and_eq_true] at this; have := of_decide_eq_true this.1; simp only at this ⊢; omega)
    rw [parse_eq, hpr, z1] at h5
    simp only at h5
    have hs := str_ok true (chTx ks) hne (by omega)
    have hn : IntKind.i64.wrap (2 + IntKind.i64.wrap (3 * (((l.map encP).length : Nat) : Int))) = ((2 + 3 * l.length : Nat) : Int) := by
     rw [List.length_map, wrap_id (n := 3 * (l.length : Int)) (by omega) (by omega), wrap_id (by omega) (by omega)]; omega
    clear hwh hpr hp0 z1 z2 ly1 ly2 e0
    generalize newW (chCode ks) (rst (chTx ks) [[116, 48]]) (layM l) d = r at *
    generalize layM l = M at *
    generalize chTx ks = T at *
    unfold gls at h5
    unfold encWd wCells encMem mCells ivs at h5
    unfold encMem mCells ivs at h3 h4
    unfold encPs at h4
    unfold encWd wCells ivs
    unfold bld bldH adr at hs
    have h5 := h5.argw (args' := [sv T, .slf [sv [116, 48]], .agg [.sl (M.words.map iv), .sl (M.tags.map iv)], iv d]) (fun c us h => relL_cons (fun u h => h) (relL_cons (fun u h => sl_weak h) (fun us h => h)) us h)
    repeat (first | refine jS ?_ | refine jD ?_ | refine jB ?_ | refine jV hmy ?_)
    rw [show decide ((((ks.map iv).length : Nat) : Int) > 16) = false from decide_eq_false (by rw [List.length_map]; omega)]
    repeat (first | refine jS ?_ | refine jD ?_ | refine jB ?_)
    rw [hn]
    repeat (first | refine jS ?_ | refine jB ?_ | refine jV h3 ?_ | refine jV h4 ?_)
    refine jdrawPT [(2, .r), (0, .x), (1, .p), (3, .p), (4, .m), (5, .p), (6, .p), (7, .m), (8, .p)] rfl (by kernel_rfl) ?_
    repeat (first | refine jS ?_ | refine jD ?_ | refine jB ?_)
    refine jbx [5,6] hs rfl rfl rfl ⟨rfl, rfl, rfl, rfl, rfl, rfl⟩ rfl rfl (by repeat (first | exact trivial | refine ⟨rfl, ?_⟩)) rfl rfl ?_
    repeat (first | refine jS ?_ | refine jD ?_ | refine jB ?_)
    refine jb [0,1,2,3] h5 rfl rfl rfl ⟨rfl, rfl, rfl, rfl, rfl, rfl⟩ rfl rfl rfl rfl ?_
    repeat (first | refine jS ?_ | refine jD ?_ | refine jB ?_)
    exact jret [] true rfl rfl rfl ⟨rfl, rfl⟩
   ·have e0 : wch0 l ks d = (wd0, 2) := by unfold wch0; rw [hP, hkeys, decide_eq_false c16]; rfl
    rw [e0]
    unfold encWd wCells ivs
    repeat (first | refine jS ?_ | refine jD ?_ | refine jB ?_ | refine jV hmy ?_)
    rw [show decide ((((ks.map iv).length : Nat) : Int) > 16) = true from decide_eq_true (by rw [List.length_map]; omega)]
    repeat (first | refine jS ?_ | refine jD ?_ | refine jB ?_)
    exact jret [] true rfl rfl rfl ⟨rfl, rfl⟩
end Go.AL
end
