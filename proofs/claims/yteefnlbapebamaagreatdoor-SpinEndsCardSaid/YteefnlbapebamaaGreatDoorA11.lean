/-
  Part 11 of the proof texts: the program logic over the model, then the contracts of the functions that the laws reach. No conditions.
-/
import Derived.Test.YteefnlbapebamaaGreatDoorA10
import Derived.Test.YteefnlbapebamaaGreatDoorRows
import Derived.JoinedOf
import Derived.JoinedAt
import Derived.RowKit3
import Derived.LaidMore
import Derived.Lib.LaidTab
import Derived.Stop.LaidErr
import Derived.Lay
import Derived.LaidSub
import Derived.LaidHandle
set_option linter.unusedVariables false
set_option linter.unusedSimpArgs false
set_option maxHeartbeats 2000000
section
set_option maxRecDepth 100000
namespace Go.AL
open Go Go.Proofs
attribute [local irreducible] J
theorem make_pub [T : TyTab Tryz.prog] {dst : Option Tmp} {t : TypeId} {l c : Operand} {type : TypeId} {pos : String} {after : Array Edge} {guard : Option (Nat × Bool)} {F : Fr} {H : List AObj} {e : TypeId} {r r' : TyRow} {kl kc : IntKind} {n : Int} (m : Nat) {z : Value}
  (hl : ev F l = some (.v (.int kl n))) (hc : ev F c = some (.v (.int kc n))) (hm : n = (m : Int)) (ht : tfind T.tab t = some r') (hd : r'.d = .slice e) (he : tfind T.tab e = some r) (hz : r.z = z) (hs : r.size = 1) (hzc : z.cells = #[z]) (hb : r.bytes ≤ 1000) (hk : m ≤ 1000000) :
  DSem Tryz.prog .p ⟨dst, .makeSlice t l c, type, pos, after, guard⟩ F H (.sl (List.replicate m (.v z))) H := by
 refine ⟨rfl, fun H' => ?_⟩
 intro ext w β ρ hI hext hκ hρ
 have h2 : ρ l = .int kl n := hρ l (by simp [Op.operands]) _ hl
 have h3 : ρ c = .int kc n := hρ c (by simp [Op.operands]) _ hc
 obtain ⟨i, i1, i2, i3, i4⟩ := ty_info he
 rw [hz] at i2
 rw [hs] at i3
 have hu : Tryz.prog.underlying t = some (.slice e) := by rw [ty_und ht, hd]
 have hbm : i.bytes * m ≤ 1000 * 1000000 := Nat.mul_le_mul (by omega) hk
 have hq0 : (i.bytes : Int) * n ≤ 281474976710656 := by
  rw [hm, ← Int.natCast_mul]; generalize i.bytes * m = q at hbm ⊢; omega
 have hr := run_make (P := Tryz.prog) w t e i z hu i1 i2 kl kc n n (by omega) (Int.le_refl _) hq0 (by omega)
 have h4 : (execOp ρ ⟨dst, .makeSlice t l c, type, pos, after, guard⟩).run Tryz.prog w = .ok (.value (.slice (some ⟨w.heap.size, 0, none⟩) m m)) (World.push w (.cells (madeCells z.cells m) e)) := by
  simp only [execOp, Sem.run_bind, h2, h3, hr, Result.andThen_ok, Sem.run_pure]
  rw [hm, i3, Nat.mul_one]
  rfl
 rw [h4]
 refine ⟨_, _, β, ⟨rfl, rfl⟩, ⟨some ⟨w.heap.size, 0, none⟩, m, 1, by rw [List.length_replicate], by rw [List.length_replicate]; exact Nat.le_refl _, fun _ => ⟨w.heap.size, 0, rfl, ?_, by show w.heap.size < (World.push w _).heap.size; rw [push_size]; omega⟩, ?_⟩, hI.push _, Step.push w β _⟩
 ·rintro (h | h)
  ·exact absurd (hext _ h) (by omega)
  ·exact absurd (hI.sep _ h).2 (by omega)
 ·refine RelR.of_get fun q a ha => ?_
  have hq : q < m := by simpa using (List.getElem?_eq_some_iff.1 ha).1
  rw [List.getElem?_replicate, if_pos hq] at ha
  injection ha with ha
  subst ha
  refine ⟨z, rfl, by rw [hzc]; rfl, fun p hp => ?_⟩
  have hp0 : p = 0 := by omega
  subst hp0
  simp only [Nat.zero_add, Nat.mul_one, Nat.add_zero]
  show (World.push w _).cell? ⟨w.heap.size, 0 + q, none⟩ = _
  rw [Nat.zero_add]
  simp only [World.cell?, push_top]
  rw [hzc]
  show (madeCells #[z] m)[q]? = _
  rw [made_get _ _ _ hq]
  rfl
theorem mnew_ok (n : Nat) (h1 : 1 ≤ n) (h2 : n ≤ 160) : ACalls Tryz.prog 42 [iv (n : Int)] [] (one (.tup [encMem ⟨List.replicate n 0, List.replicate n 0⟩, iv 0]) []) := by
 have f1 : decide ((n : Int) < 1) = false := decide_eq_false (by omega)
 have f2 : decide ((n : Int) > 160) = false := decide_eq_false (by omega)
 unfold encMem mCells ivs
 refine jcalls Tryz.func42 rfl (by kernel_rfl) Tryz.ntmps42 rfl rfl (fun w0 β0 ext hβ => ?_)
 repeat (first | refine jS ?_ | refine jD ?_ | refine jB ?_)
 rw [f1]
 repeat (first | refine jS ?_ | refine jD ?_ | refine jB ?_)
 rw [f2]
 repeat (first | refine jS ?_ | refine jB ?_)
 refine jdrawPT [(0, .p), (1, .p), (2, .p), (3, .p), (4, .p), (5, .m), (6, .p)] rfl (by kernel_rfl) ?_
 repeat (first | refine jS ?_ | refine jD ?_ | refine jB ?_)
 refine jo rfl rfl (make_pub n rfl rfl rfl rfl rfl rfl rfl rfl rfl (by decide) (by omega)) rfl rfl ?_
 repeat (first | refine jS ?_ | refine jD ?_ | refine jB ?_)
 refine jo rfl rfl (make_pub n rfl rfl rfl rfl rfl rfl rfl rfl rfl (by decide) (by omega)) rfl rfl ?_
 repeat (first | refine jS ?_ | refine jD ?_ | refine jB ?_)
 rw [List.map_replicate]
 exact jR
def names (n : Nat) : List Bs := (List.range n).map tname
theorem names_succ (n : Nat) : names (n + 1) = names n ++ [tname n] := by unfold names; rw [List.range_succ, List.map_append]; rfl
end Go.AL
end
section
set_option maxRecDepth 100000
namespace Go.AL
open Go Go.Proofs
attribute [local irreducible] J
def spM : Mem := ⟨[0, 0, 0], [0, 1, 1]⟩
theorem spM_mark : mMark ⟨List.replicate 3 0, List.replicate 3 0⟩ 1 2 1 = (spM, 0) := by decide +kernel
theorem spM_right : mRight spM = true := by decide +kernel
theorem names_len (n : Nat) : (names n).length = n := by unfold names; simp
theorem sp_there (ts : List Int) (h8 : ts.length ≤ 8) (hn : ∀ n ∈ ts, 0 ≤ n ∧ n ≤ 9) : ∀ l ∈ names ts.length, (whereP (ltx (spLn ts)) l).2 = 0 := fun l hl => by
 unfold names at hl
 obtain ⟨i, hi, rfl⟩ := List.mem_map.1 hl
 rw [sp_where ts h8 hn (List.mem_range.1 hi)]
def spText (ts : List Int) : Bs := ltx (spLn ts)
def spW (ts : List Int) (d : Int) : Wd × Int := cond (turnsOk ts) (newW (spCode ts) (rst (spText ts) (names ts.length)) spM d) (wd0, 2)
theorem spworld_ok (g : Gl) (ts : List Int) (d : Int) (hl : ts.length ≤ 1000000) : ACalls Tryz.prog 16 [ivs ts, iv d] (gls g) (one (.tup [encWd (spW ts d).1, iv (spW ts d).2]) (gls g)) := by
 have h1 := sprog_ok g ts hl
 cases hT : turnsOk ts with
 | false =>
  have e1 : progT ts = ([], 2) := by unfold progT; rw [hT]; rfl
  have e2 : spW ts d = (wd0, 2) := by unfold spW; rw [hT]; rfl
  rw [e1] at h1
  rw [e2]
  unfold gls at *
  unfold encWd wCells ivs at *
  refine jcalls Tryz.func16 rfl (by kernel_rfl) Tryz.ntmps16 rfl rfl (fun w0 β0 ext hβ => ?_)
  repeat (first | refine jS ?_ | refine jD ?_ | refine jB ?_)
  refine jb [0,1,2,3] h1 rfl rfl rfl ⟨rfl, rfl, rfl, rfl, rfl, rfl⟩ rfl rfl rfl rfl ?_
  repeat (first | refine jS ?_ | refine jD ?_ | refine jB ?_)
  exact jret [] true rfl rfl rfl ⟨rfl, rfl⟩
 | true =>
  obtain ⟨hn, t1, t8⟩ := turnsOk_iff.1 hT
  have e1 : progT ts = (spText ts, 0) := by unfold progT; rw [hT]; rfl
  have hpr := sp_parse ts t8 hn
  have hlen := sp_len ts t8 hn
  have hwh := sp_there ts t8 hn
  rw [show ltx (spLn ts) = spText ts from rfl] at hpr hlen hwh
  have hp0 : (rparse (spText ts)).2.2 = 0 := by rw [hpr]
  obtain ⟨z1, z2⟩ := rst_eq hp0 (names ts.length)
  have e2 : spW ts d = newW (parseP (spText ts)).1 (stAt (spText ts) (names ts.length)) spM d := by unfold spW; rw [hT, parse_eq, hpr, z1]; rfl
  rw [e1] at h1
  rw [e2]
  have h2 := mnew_ok 3 (by decide) (by decide)
  have h3 := mark_ok ⟨List.replicate 3 0, List.replicate 3 0⟩ 1 2 1 (by decide +kernel) (.inl rfl)
  rw [spM_mark] at h3
  have h4 := snew_ok g (spText ts) (names ts.length) spM d (by omega) (by rw [names_len]; omega) (by decide) (by rw [parse_eq]; exact hp0) hwh (by rw [parse_eq, hpr]; have := parse_right hp0; unfold rightC at this; rw [hpr, Bool.and_eq_true] at this; have := of_decide_eq_true this.1; simp only at this ⊢; omega)
  have hit := fun (k : Int) => itoa_ok g k
  generalize newW (parseP (spText ts)).1 (stAt (spText ts) (names ts.length)) spM d = r at *
  generalize spText ts = T at *
  generalize spM = m at *
  clear e1 e2 z1 z2 hp0 hpr hwh
  unfold gls at *
  unfold encWd wCells encMem mCells ivs at *
  refine jcalls Tryz.func16 rfl (by kernel_rfl) Tryz.ntmps16 rfl rfl (fun w0 β0 ext hβ => ?_)
  repeat (first | refine jS ?_ | refine jD ?_ | refine jB ?_)
  refine jb [0,1,2,3] h1 rfl rfl rfl ⟨rfl, rfl, rfl, rfl, rfl, rfl⟩ rfl rfl rfl rfl ?_
  repeat (first | refine jS ?_ | refine jD ?_ | refine jB ?_ | refine jV h2 ?_ | refine jV h3 ?_)
  refine jad 10 9 1 rfl rfl rfl rfl ?_
  refine jloopI (fun q : Nat => q ≤ ts.length) [1, 4, 6, 8, 10, 30, 31, 32] (fun q => [iv d, .ptr 4 0, sv T, .ptr 5 0, .arr 6 (q + 1), .sl (ts.map iv), .v (.int .i64 ((ts.map iv).length : Int)), .v (.int .i64 (q : Int))])
   (fun q => [g.a, g.b, g.c, g.d, .box 33 [.slf [], .slf [], .slf [], iv 0, .slf [], .slf [], .slf []], .box 26 [.sl (m.words.map iv), .sl (m.tags.map iv)], .arr (q + 1) 9 1 ((names q).map sv)]) (fun q => ts.length - q) 0 (Nat.zero_le _) rfl rfl (fun q hq => ?_)
  repeat (first | refine jS ?_ | refine jD ?_ | refine jB ?_)
  refine jc rfl rfl rfl (fun h => ?_) (fun h => ?_)
  ·have h := of_decide_eq_true h
   rw [List.length_map] at h
   have hq2 : q < ts.length := by omega
   have hidx : IntKind.i64.wrap ((q : Int) + 1) = ((q + 1 : Nat) : Int) := idx_next hq2 (by omega)
   have hit := hit q (by omega) (by omega)
   have hl := tname_len (n := q) (by omega)
   have hln := names_len q
   repeat (first | refine jS ?_ | refine jD ?_ | refine jB ?_)
   refine jb [0,1,2,3] hit rfl rfl rfl ⟨rfl, rfl, rfl, rfl, rfl, rfl⟩ rfl rfl rfl rfl ?_
   refine jo rfl rfl (cat_str (a := [116]) (b := Lib.itoa q) rfl rfl (by unfold tname at hl; simp at hl ⊢; omega)) rfl rfl ?_
   rw [show [116] ++ Lib.itoa (q : Int) = tname q from rfl]
   repeat (first | refine jS ?_ | refine jD ?_ | refine jB ?_)
   refine jo rfl rfl (append_enc (enc := sv) (l := names q) (tname q) rfl rfl rfl rfl rfl rfl rfl rfl rfl rfl (fun x => ⟨rfl, rfl⟩) rfl (by omega) rfl rfl) rfl rfl ?_
   rw [← names_succ]
   repeat (first | refine jS ?_ | refine jD ?_ | refine jB ?_)
   refine jnextI (q + 1) hq2 ?_ rfl (by omega)
   show some _ = some _
   rw [hidx]
  ·have h := of_decide_eq_false h
   rw [List.length_map] at h
   have : q = ts.length := by omega
   subst this
   refine jpub 10 rfl rfl rfl rfl ?_
   repeat (first | refine jS ?_ | refine jD ?_ | refine jB ?_)
   refine jb [0,1,2,3] h4 rfl rfl rfl ⟨rfl, rfl, rfl, rfl, rfl, rfl⟩ rfl rfl rfl rfl ?_
   repeat (first | refine jS ?_ | refine jD ?_ | refine jB ?_)
   exact jR
def spO (ts : List Int) (d : Int) : Wd := newOk (spCode ts) (rst (spText ts) (names ts.length)) spM d
theorem spW_good {ts : List Int} (hT : turnsOk ts = true) {d : Int} (hd : inn d 0 8 = true) : spW ts d = (spO ts d, 0) ∧ WdR (spO ts d) := by
 obtain ⟨hn, t1, t8⟩ := turnsOk_iff.1 hT
 have hpr := sp_parse ts t8 hn
 rw [show ltx (spLn ts) = spText ts from rfl] at hpr
 have hp0 : (rparse (spText ts)).2.2 = 0 := by rw [hpr]
 have hz : inn ((names ts.length).length : Int) 1 8 = true := by rw [names_len]; exact inn_iff.2 ⟨by omega, by omega⟩
 have h1 := newW_good hp0 (names ts.length) spM d spM_right hz hd
 have h2 := newOk_r hp0 (names ts.length) spM d spM_right hz hd
 rw [hpr] at h1 h2
 exact ⟨by unfold spW; rw [hT]; exact h1, h2⟩
theorem one_turns : turnsOk [1] = true := by decide +kernel
theorem one_runs : (roundsW (spO [1] 1) 100).1.tso.mem.words = [0, 0, 1] := by decide +kernel
theorem spalive_ok (g : Gl) : ACalls Tryz.prog 18 [] (gls g) (one (bv true) (gls g)) := by
 obtain ⟨e1, e2⟩ := spW_good one_turns (d := 1) (by decide)
 have h1 := spworld_ok g [1] 1 (by decide)
 rw [e1] at h1
 have h2 := rounds_ok (spO [1] 1) 100 e2 (by decide) (by decide)
 have e3 := one_runs
 generalize (roundsW (spO [1] 1) 100).2 = n at *
 generalize (roundsW (spO [1] 1) 100).1 = w at *
 generalize spO [1] 1 = w0 at *
 clear e1 e2
 unfold gls at *
 unfold encWd wCells ivs at *
 rw [e3] at h2
 have h1 := h1.argw (args' := [.slf [iv 1], iv 1]) (fun c us h => relL_cons (fun u h => sl_weak h) (fun us h => h) us h)
 refine jcalls Tryz.func18 rfl (by kernel_rfl) Tryz.ntmps18 rfl rfl (fun w0 β0 ext hβ => ?_)
 repeat (first | refine jS ?_ | refine jD ?_ | refine jB ?_)
 refine jb [0,1,2,3] h1 rfl rfl rfl ⟨rfl, rfl, rfl, rfl, rfl, rfl⟩ rfl rfl rfl rfl ?_
 have i0 : (0 : Int) ≤ 2 := by decide
 have i1 : (2 : Int) < ([0, 0, 1] : List Int).length := by decide
 repeat (first | refine jS ?_ | refine jD ?_ | refine jB ?_ | refine jV h2 ?_ | refine jo rfl rfl (index_at rfl rfl rfl rfl rfl rfl rfl rfl i0 i1) rfl rfl ?_)
 rw [show (at' ([0, 0, 1] : List Int) (2 : Int) == 1) = true from by decide]
 repeat (first | refine jS ?_ | refine jD ?_ | refine jB ?_)
 exact jR
end Go.AL
end
section
set_option maxRecDepth 100000
namespace Go.AL
open Go Go.Proofs
theorem sum_set : ∀ (l : List Int) (k : Nat), k < l.length → (l.set k (g0 l k + 1)).sum = l.sum + 1
 | [], k, h => by simp at h
 | x :: xs, 0, h => by
  show (x + 1) + xs.sum = (x + xs.sum) + 1
  omega
 | x :: xs, k + 1, h => by
  have := sum_set xs k (by simpa using h)
  show x + (xs.set k (g0 xs k + 1)).sum = (x + xs.sum) + 1
  omega
theorem sum_le : ∀ (l : List Int) (b : Int), (∀ x ∈ l, x ≤ b) → l.sum ≤ b * l.length
 | [], b, h => by simp
 | x :: xs, b, h => by
  have h1 := sum_le xs b fun y hy => h y (List.mem_cons_of_mem _ hy)
  have h2 := h x (List.mem_cons_self ..)
  show x + xs.sum ≤ b * ((xs.length + 1 : Nat) : Int)
  rw [Int.natCast_add, Int.mul_add]
  omega
theorem scStep_sum {n : Nat} {s s' : Sc} {e : Evt} (h : scStep n s e = some s') (h1 : s.ins.length = n) (h2 : s.outs.length = n) : s'.ins.length = n ∧ s'.outs.length = n ∧ s'.ins.sum = s.ins.sum + cond (decide (e.kind = 2)) 1 0 ∧ s'.outs.sum = s.outs.sum + cond (decide (e.kind = 3)) 1 0 := by
 unfold scStep at h
 by_cases hk : e.who < 0 ∨ e.who ≥ n
 ·have : (decide (e.who < 0) || decide (e.who ≥ n)) = true := by
   rw [Bool.or_eq_true]
   exact hk.elim (fun a => .inl (decide_eq_true a)) (fun a => .inr (decide_eq_true a))
  rw [this] at h; cases h
 ·have : (decide (e.who < 0) || decide (e.who ≥ n)) = false := by rw [Bool.or_eq_false_iff]; exact ⟨decide_eq_false fun a => hk (.inl a), decide_eq_false fun a => hk (.inr a)⟩
  rw [this] at h
  simp only [cond_false] at h
  by_cases k2 : e.kind = 2
  ·rw [decide_eq_true k2] at h
   simp only [cond_true] at h
   by_cases hi : s.inside ≥ 0
   ·rw [decide_eq_true hi] at h; cases h
   ·rw [decide_eq_false hi] at h
    cases h
    rw [decide_eq_true k2, decide_eq_false (by omega : ¬ e.kind = 3)]
    exact ⟨by simp [inc, h1], h2, sum_set _ _ (by omega), by simp⟩
  ·rw [decide_eq_false k2] at h
   simp only [cond_false] at h
   by_cases k3 : e.kind = 3
   ·rw [decide_eq_true k3] at h
    simp only [cond_true] at h
    by_cases hi : s.inside = e.who
    ·rw [decide_eq_true hi] at h
     cases h
     rw [decide_eq_false k2, decide_eq_true k3]
     exact ⟨h1, by simp [inc, h2], by simp, sum_set _ _ (by omega)⟩
    ·rw [decide_eq_false hi] at h; cases h
   ·rw [decide_eq_false k3] at h; cases h
theorem scE_sum (n : Nat) (l : List Evt) : ∀ s, scE n l = some s → s.ins.length = n ∧ s.outs.length = n ∧ s.ins.sum = cntE 2 l ∧ s.outs.sum = cntE 3 l := by
 have key : ∀ m, ∀ l : List Evt, l.length = m → ∀ s, scE n l = some s → s.ins.length = n ∧ s.outs.length = n ∧ s.ins.sum = cntE 2 l ∧ s.outs.sum = cntE 3 l := by
  intro m
  induction m with
  | zero =>
   intro l hl s hs
   obtain rfl := List.length_eq_zero_iff.1 hl
   cases hs
   exact ⟨by simp, by simp, by simp [cntE], by simp [cntE]⟩
  | succ m ih =>
   intro l hl s hs
   obtain ⟨l', e, rfl⟩ : ∃ l' e, l = l' ++ [e] := ⟨l.dropLast, l.getLast (by intro h; rw [h] at hl; cases hl), (List.dropLast_concat_getLast _).symm⟩
   rw [scE_snoc] at hs
   cases h1 : scE n l' with
   | none => rw [h1] at hs; cases hs
   | some s1 =>
    rw [h1] at hs
    obtain ⟨a, b, c, d⟩ := ih l' (by simpa using hl) s1 h1
    obtain ⟨a', b', c', d'⟩ := scStep_sum hs a b
    refine ⟨a', b', ?_, ?_⟩
    ·rw [c', c, cntE_snoc]; cases decide (e.kind = 2) <;> simp
    ·rw [d', d, cntE_snoc]; cases decide (e.kind = 3) <;> simp
 exact key l.length l rfl
theorem tally_sum {n : Nat} {f : Nat → Nat} {b : Nat} (h : ∀ i, i < n → f i ≤ b) : (tally n f).sum ≤ b * n := by
 have := sum_le (tally n f) b fun x hx => by
  unfold tally at hx
  obtain ⟨i, hi, rfl⟩ := List.mem_map.1 hx
  have := h i (List.mem_range.1 hi)
  omega
 have hl : (tally n f).length = n := by unfold tally; simp
 rw [hl] at this
 exact this
theorem kT_le {ts : List Int} (h : turnsOk ts = true) (i : Nat) : kT ts i ≤ 9 := by
 obtain ⟨hn, _, _⟩ := turnsOk_iff.1 h
 unfold kT
 rw [List.getD_eq_getElem?_getD]
 cases e : ts[i]? with
 | none => decide
 | some x =>
  have := hn x (List.mem_of_getElem? e)
  show x.toNat ≤ 9
  omega
section
variable {ts : List Int} {w : Wd} {ls : Nat → Nat × Nat} {c : Nat} {lk ind : Int} {k : Nat}
theorem SpI.at_le (h : SpI ts w ls c lk ind) {i : Nat} (hi : i < ts.length) : outN (ls i) ≤ kT ts i ∧ insN (ls i) ≤ kT ts i ∧ (ls i).1 ≤ kT ts i := by
 have := (h.at_ i hi).run
 unfold outN insN
 rcases this with ⟨a, b, _⟩ | ⟨a, b, _⟩ | ⟨a, b, _⟩
 ·refine ⟨?_, ?_, ?_⟩
  ·cases decide (16 ≤ (ls i).2) && decide ((ls i).2 ≤ 20) <;> simp <;> omega
  ·cases decide (11 ≤ (ls i).2) && decide ((ls i).2 ≤ 20) <;> simp <;> omega
  ·omega
 ·rw [a, b]; exact ⟨Nat.le_refl _, Nat.le_refl _, Nat.le_refl _⟩
 ·rw [a, b]; exact ⟨Nat.le_refl _, Nat.le_refl _, Nat.le_refl _⟩
theorem SpI.few (ht : turnsOk ts = true) (h : SpI ts w ls c lk ind) : c ≤ 1000 := by
 obtain ⟨_, _, h3, h4⟩ := scE_sum _ _ _ h.sc
 have h5 := tally_sum (n := ts.length) (f := fun i => outN (ls i)) (b := 9) fun i hi => Nat.le_trans (h.at_le hi).1 (kT_le ht i)
 obtain ⟨_, _, t8⟩ := turnsOk_iff.1 ht
 have h4 : (tally ts.length fun i => outN (ls i)).sum = cntE 3 w.evs := h4
 have : (cntE 3 w.evs : Int) ≤ 9 * ts.length := by omega
 rcases h.own with ⟨_, _, a, _⟩ | ⟨_, q, _, _, _, _, a⟩
 ·omega
 ·have : cond (decide ((ls q).2 = 15)) 1 0 ≤ 1 := by cases decide ((ls q).2 = 15) <;> decide
  omega
theorem sp_step (ht : turnsOk ts = true) (hw : WdR w) (h : SpI ts w ls c lk ind) (hk : k < w.thr.length) (hc : canW w k = true) : SpX ts (doW w k) (pot ts w ls lk) := by
 have hkn : k < ts.length := by rw [← h.len]; exact hk
 have h0 := canW_state hc
 obtain ⟨j, s, hls⟩ : ∃ j s, ls k = (j, s) := ⟨_, _, rfl⟩
 have hr := (h.at_ k hkn).run
 rw [hls] at hr
 rcases hr with ⟨hj, hs, _⟩ | ⟨hj, hs, _⟩ | ⟨_, _, e⟩
 ·have hj : j < kT ts k := hj
  have hs : s ≤ 20 := hs
  have hcases : s = 0 ∨ s = 1 ∨ s = 2 ∨ s = 3 ∨ s = 4 ∨ s = 5 ∨ s = 6 ∨ s = 7 ∨ s = 8 ∨ s = 9 ∨ s = 10 ∨ s = 11 ∨ s = 12 ∨ s = 13 ∨ s = 14 ∨ s = 15 ∨ s = 16 ∨ s = 17 ∨ s = 18 ∨ s = 19 ∨ s = 20 := by omega
  rcases hcases with rfl | rfl | rfl | rfl | rfl | rfl | rfl | rfl | rfl | rfl | rfl | rfl | rfl | rfl | rfl | rfl | rfl | rfl | rfl | rfl | rfl
  ·exact st0 h (here hw h hkn hls hj h0 (turn_at (o := 0) hkn hj (by decide) rfl))
  ·exact st1 h (here hw h hkn hls hj h0 (turn_at (o := 1) hkn hj (by decide) rfl))
  ·exact st2 h (here hw h hkn hls hj h0 (lock_at (o := 0) (by decide) rfl))
  ·exact st3 h (here hw h hkn hls hj h0 (lock_at (o := 1) (by decide) rfl))
  ·exact st4 h (here hw h hkn hls hj h0 (lock_at (o := 2) (by decide) rfl))
  ·exact st5 h (here hw h hkn hls hj h0 (lock_at (o := 3) (by decide) rfl))
  ·exact st6 hc h (here hw h hkn hls hj h0 (lock_at (o := 4) (by decide) rfl))
  ·exact st7 h (here hw h hkn hls hj h0 (lock_at (o := 5) (by decide) rfl))
  ·exact st8 h (here hw h hkn hls hj h0 (lock_at (o := 3) (by decide) rfl))
  ·exact st9 h (here hw h hkn hls hj h0 (lock_at (o := 6) (by decide) rfl))
  ·exact st10 h (here hw h hkn hls hj h0 (turn_at (o := 2) hkn hj (by decide) rfl))
  ·exact st11 h (here hw h hkn hls hj h0 (turn_at (o := 3) hkn hj (by decide) rfl))
  ·exact st12 h (here hw h hkn hls hj h0 (turn_at (o := 4) hkn hj (by decide) rfl))
  ·exact st13 (by have := h.few ht; omega) h (here hw h hkn hls hj h0 (turn_at (o := 5) hkn hj (by decide) rfl))
  ·exact st14 h (here hw h hkn hls hj h0 (turn_at (o := 6) hkn hj (by decide) rfl))
  ·exact st15 h (here hw h hkn hls hj h0 (turn_at (o := 7) hkn hj (by decide) rfl))
  ·exact st16 h (here hw h hkn hls hj h0 (turn_at (o := 8) hkn hj (by decide) rfl))
  ·exact st17 h (here hw h hkn hls hj h0 (turn_at (o := 9) hkn hj (by decide) rfl))
  ·exact st18 h (here hw h hkn hls hj h0 (lock_at (o := 7) (by decide) rfl))
  ·exact st19 h (here hw h hkn hls hj h0 (lock_at (o := 8) (by decide) rfl)) hc
  ·exact st20 h (here hw h hkn hls hj h0 (lock_at (o := 9) (by decide) rfl))
 ·have hj : j = kT ts k := hj
  have hs : s = 0 := hs
  subst hj hs
  exact st_halt hw h hkn hls h0
 ·rw [h0] at e; exact absurd e (by decide)
end
def SpY (ts : List Int) (w : Wd) : Prop := ∃ ls c lk ind, SpI ts w ls c lk ind
theorem sp_keepX {ts : List Int} (ht : turnsOk ts = true) (m : Nat) : Keeps fun w => SpX ts w m :=
 ⟨fun w k hw ⟨ls, c, lk, ind, h, hm⟩ hk hc => by
  obtain ⟨a, b, d, e, f, g⟩ := sp_step ht hw h hk hc
  exact ⟨a, b, d, e, f, Nat.lt_trans g hm⟩, fun w k p r hw ⟨ls, c, lk, ind, h, hm⟩ hk hb => by
  obtain ⟨a, b, d, e, f, g⟩ := sp_flush h hw hk hb
  exact ⟨a, b, d, e, f, Nat.lt_trans g hm⟩⟩
theorem sp_keeps {ts : List Int} (ht : turnsOk ts = true) : Keeps (SpY ts) :=
 ⟨fun w k hw ⟨ls, c, lk, ind, h⟩ hk hc => by
  obtain ⟨a, b, d, e, f, g⟩ := sp_step ht hw h hk hc
  exact ⟨a, b, d, e, f⟩, fun w k p r hw ⟨ls, c, lk, ind, h⟩ hk hb => by
  obtain ⟨a, b, d, e, f, g⟩ := sp_flush h hw hk hb
  exact ⟨a, b, d, e, f⟩⟩
theorem sp_start {ts : List Int} (ht : turnsOk ts = true) (d : Int) : SpY ts (spO ts d) := by
 obtain ⟨hn, t1, t8⟩ := turnsOk_iff.1 ht
 have hpr := sp_parse ts t8 hn
 rw [show ltx (spLn ts) = spText ts from rfl] at hpr
 have hp0 : (rparse (spText ts)).2.2 = 0 := by rw [hpr]
 obtain ⟨z1, _⟩ := rst_eq hp0 (names ts.length)
 have hst : rst (spText ts) (names ts.length) = (List.range ts.length).map fun i => ((spAt ts i : Nat) : Int) := by
  rw [← z1]
  unfold stAt names
  rw [List.map_map]
  refine List.map_congr_left fun i hi => ?_
  have := sp_where ts t8 hn (List.mem_range.1 hi)
  show (whereP (spText ts) (tname i)).1 = _
  rw [show spText ts = ltx (spLn ts) from rfl, this]
 refine ⟨fun _ => (0, 0), 0, 0, -1, ⟨rfl, ?_, rfl, fun i hi => ?_, fun i hi => .inl ?_, .inl ⟨rfl, rfl, rfl, fun _ _ => rfl⟩, .inl ⟨rfl, fun _ _ => rfl⟩, ?_⟩⟩
 ·show ((rst (spText ts) (names ts.length)).map thrP).length = _
  rw [hst]; simp
 ·have e : thrAt (spO ts d) i = thrP (spAt ts i) := by
   show ((rst (spText ts) (names ts.length)).map thrP).getD i thr0 = _
   rw [hst, List.map_map, List.getD_eq_getElem?_getD, List.getElem?_map, List.getElem?_range hi]; rfl
  rw [e]
  refine ⟨?_, fun _ => rfl, fr_no rfl rfl rfl, trivial, rfl, rfl⟩
  by_cases h0 : 0 < kT ts i
  ·exact .inl ⟨h0, Nat.zero_le _, rfl⟩
  ·exact .inr (.inl ⟨by show 0 = _; omega, rfl, rfl⟩)
 ·show (List.replicate (rst (spText ts) (names ts.length)).length ([] : List Wput)).getD i [] = []
  rw [List.getD_eq_getElem?_getD]
  cases h : (List.replicate (rst (spText ts) (names ts.length)).length ([] : List Wput))[i]? with
  | none => rfl
  | some x => exact List.eq_of_mem_replicate (List.mem_of_getElem? h)
 ·have : tally ts.length (fun _ => 0) = List.replicate ts.length 0 := by
   unfold tally
   rw [List.map_const']; simp
  show some _ = some (Sc.mk _ (tally ts.length fun _ => 0) (tally ts.length fun _ => 0))
  rw [this]
end Go.AL
end
section
set_option maxRecDepth 100000
namespace Go.AL
open Go Go.Proofs
theorem act0_eq {w : Wd} (hw : WdR w) {k : Nat} (hk : k < w.thr.length) : actW w ⟨0, k⟩ = cond (canW w k) (doW w k, true) (w, false) := by
 show cond (decide ((stepW w k).2 = 0)) ((stepW w k).1, true) (w, false) = _
 unfold stepW
 rw [wRight_iff.2 hw, show inT w (k : Int) = true from inn_iff.2 ⟨by omega, by omega⟩, Int.toNat_natCast]
 cases canW w k <;> rfl
theorem act1_eq {w : Wd} (hw : WdR w) {k : Nat} (hk : k < w.thr.length) : actW w ⟨1, k⟩ = match bufAt w.tso k with
  | [] => (w, false)
  | p :: r => (flushD w k p r, true) := by
 show cond (decide ((flushW w k).2 = 0)) ((flushW w k).1, true) (w, false) = _
 unfold flushW
 rw [wRight_iff.2 hw, show inT w (k : Int) = true from inn_iff.2 ⟨by omega, by omega⟩, Int.toNat_natCast]
 cases bufAt w.tso k <;> rfl
def rndL (w : Wd) (l : List Nat) : Wd := l.foldl (fun (s : Wd) (k : Nat) => (actW (actW s ⟨0, k⟩).1 ⟨1, k⟩).1) w
theorem rndL_keep {I : Wd → Prop} (h : Keeps I) : ∀ (l : List Nat) {w : Wd}, WdR w → I w → I (rndL w l)
 | [], w, hw, hI => hI
 | k :: l, w, hw, hI => by
  have h1 := (actW_right ⟨0, k⟩ hw).1
  have h2 := act_keep h hw hI ⟨0, k⟩
  exact rndL_keep h l (actW_right ⟨1, k⟩ h1).1 (act_keep h h1 h2 ⟨1, k⟩)
section
variable {ts : List Int}
theorem rnd_prog (ht : turnsOk ts = true) : ∀ (l : List Nat) {w : Wd} {ls : Nat → Nat × Nat} {c : Nat} {lk ind : Int}, WdR w → SpI ts w ls c lk ind → (∀ k ∈ l, k < ts.length) →
  (rndL w l = w ∧ ∀ k ∈ l, canW w k = false ∧ bufAt w.tso k = []) ∨ SpX ts (rndL w l) (pot ts w ls lk)
 | [], w, ls, c, lk, ind, hw, h, hl => .inl ⟨rfl, fun k hk => by cases hk⟩
 | k :: l, w, ls, c, lk, ind, hw, h, hl => by
  have hk : k < w.thr.length := by rw [h.len]; exact hl k (List.mem_cons_self ..)
  have e0 := act0_eq hw hk
  have hr0 := (actW_right ⟨0, k⟩ hw).1
  show (rndL (actW (actW w ⟨0, k⟩).1 ⟨1, k⟩).1 l = w ∧ _) ∨ SpX ts (rndL (actW (actW w ⟨0, k⟩).1 ⟨1, k⟩).1 l) _
  cases hc : canW w k with
  | true =>
   rw [hc] at e0
   have e0 : actW w ⟨0, k⟩ = (doW w k, true) := e0
   rw [e0] at hr0 ⊢
   have h1 := sp_step ht hw h hk hc
   have hr1 := (actW_right ⟨1, k⟩ hr0).1
   have h2 := act_keep (sp_keepX ht _) hr0 h1 ⟨1, k⟩
   exact .inr (rndL_keep (sp_keepX ht _) l hr1 h2)
  | false =>
   rw [hc] at e0
   have e0 : actW w ⟨0, k⟩ = (w, false) := e0
   rw [e0]
   have e1 := act1_eq hw hk
   have hr1 := (actW_right ⟨1, k⟩ hw).1
   show (rndL (actW w ⟨1, k⟩).1 l = w ∧ _) ∨ SpX ts (rndL (actW w ⟨1, k⟩).1 l) _
   cases hb : bufAt w.tso k with
   | nil =>
    rw [hb] at e1
    have e1 : actW w ⟨1, k⟩ = (w, false) := e1
    rw [e1]
    rcases rnd_prog ht l hw h (fun q hq => hl q (List.mem_cons_of_mem _ hq)) with ⟨a, b⟩ | a
    ·refine .inl ⟨a, fun q hq => ?_⟩
     rcases List.mem_cons.1 hq with rfl | hq
     ·exact ⟨hc, hb⟩
     ·exact b q hq
    ·exact .inr a
   | cons p r =>
    rw [hb] at e1
    have e1 : actW w ⟨1, k⟩ = (flushD w k p r, true) := e1
    rw [e1] at hr1 ⊢
    exact .inr (rndL_keep (sp_keepX ht _) l hr1 (sp_flush h hw hk hb))
theorem round_prog (ht : turnsOk ts = true) {w : Wd} {ls : Nat → Nat × Nat} {c : Nat} {lk ind : Int} (hw : WdR w) (h : SpI ts w ls c lk ind) (hi : idleW w = false) : SpX ts (roundW w) (pot ts w ls lk) := by
 rcases rnd_prog ht (List.range w.thr.length) hw h (fun k hk => by rw [← h.len]; exact List.mem_range.1 hk) with ⟨a, b⟩ | a
 ·exfalso
  have : idleW w = true := by
   refine idle_iff.2 fun k hk => ?_
   obtain ⟨b1, b2⟩ := b k (List.mem_range.2 (by rw [hw.len]; exact hk))
   rw [b1, b2]; rfl
  rw [this] at hi; cases hi
 ·exact a
theorem rounds_end (ht : turnsOk ts = true) : ∀ (n : Nat) {w : Wd}, WdR w → SpX ts w n → (roundsW w n).2 < n ∧ idleW (roundsW w n).1 = true
 | 0, w, hw, ⟨_, _, _, _, _, h⟩ => absurd h (by omega)
 | n + 1, w, hw, ⟨ls, c, lk, ind, h, hm⟩ => by
  unfold roundsW
  cases hi : idleW w with
  | true => exact ⟨Nat.succ_pos _, hi⟩
  | false =>
   obtain ⟨a, b, d, e, f, g⟩ := round_prog ht hw h hi
   have hr := (round_keep (sp_keeps ht) hw ⟨ls, c, lk, ind, h⟩).1
   obtain ⟨h1, h2⟩ := rounds_end ht n hr ⟨a, b, d, e, f, by omega⟩
   exact ⟨Nat.succ_lt_succ h1, h2⟩
theorem pot_few {w : Wd} {ls : Nat → Nat × Nat} {c : Nat} {lk ind : Int} (h : SpI ts w ls c lk ind) (h4 : ts.length ≤ 4) (h3 : ∀ i, kT ts i ≤ 3) : pot ts w ls lk < 2000 := by
 have : ∀ i, i < ts.length → hI ts.length (kT ts i) (ls i) lk (bufAt w.tso i).length ≤ 0 + 330 := fun i hi => by
  have hK := h3 i
  have hb : (bufAt w.tso i).length ≤ 1 := by
   rcases h.buf i hi with e | ⟨_, _, e⟩
   ·rw [e]; exact Nat.zero_le _
   ·rw [e]; exact Nat.le_refl _
  have hp : phi (kT ts i) (ls i) lk ≤ 76 := by
   unfold phi sur
   have hg : gS (ls i).2 ≤ 19 := by unfold gS; split <;> decide
   cases hd : decide ((ls i).1 < kT ts i) with
   | false =>
    cases decide ((ls i).2 = 0)
    ·exact Nat.zero_le _
    ·exact (by decide : 1 ≤ 76)
   | true =>
    have := of_decide_eq_true hd
    cases spn (ls i).2 && decide (lk = 1)
    ·show 25 * (kT ts i - (ls i).1 - 1) + gS (ls i).2 + 0 + 1 ≤ 76; omega
    ·show 25 * (kT ts i - (ls i).1 - 1) + gS (ls i).2 + 6 + 1 ≤ 76; omega
  unfold hI
  have h2 : 14 * ts.length * (kT ts i - acq (ls i)) ≤ 14 * 4 * 3 := Nat.mul_le_mul (Nat.mul_le_mul (Nat.le_refl _) h4) (by omega)
  omega
 have := sumN_le (f := fun _ => 0) (f' := fun i => hI ts.length (kT ts i) (ls i) lk (bufAt w.tso i).length) (b := 330) ts.length this
 have hz : ∀ n, sumN n (fun _ => 0) = 0 := fun n => by induction n with | zero => rfl | succ n ih => show sumN n _ + 0 = 0; rw [ih]
 rw [hz] at this
 unfold pot
 have h2 : 330 * ts.length ≤ 330 * 4 := Nat.mul_le_mul (Nat.le_refl _) h4
 omega
theorem rounds_more {w : Wd} : ∀ (n m : Nat), idleW (roundsW w n).1 = true → (roundsW w n).2 < n → roundsW w (n + m) = roundsW w n := by
 intro n
 induction n generalizing w with
 | zero => intro m _ h; exact absurd h (by omega)
 | succ n ih =>
  intro m h1 h2
  rw [show n + 1 + m = (n + m) + 1 by omega]
  unfold roundsW at h1 h2 ⊢
  cases hi : idleW w with
  | true => rfl
  | false =>
   rw [hi] at h1 h2
   simp only [cond_false] at h1 h2 ⊢
   rw [ih m h1 (by omega)]
theorem sp_idle {w : Wd} (hw : WdR w) {ls : Nat → Nat × Nat} {c : Nat} {lk ind : Int} (h : SpI ts w ls c lk ind) (hi : idleW w = true) : ∀ i, i < ts.length → ls i = (kT ts i, 21) ∧ (thrAt w i).state = 1 := by
 have hall : ∀ k, k < ts.length → canW w k = false ∧ bufAt w.tso k = [] := fun k hk => by
  have := idle_iff.1 hi k (by rw [← hw.len, h.len]; exact hk)
  rw [Bool.or_eq_false_iff] at this
  refine ⟨this.1, ?_⟩
  have h2 := of_decide_eq_false this.2
  exact List.length_eq_zero_iff.1 (by omega)
 have hcan : ∀ k, k < ts.length → (thrAt w k).state = 0 → (lk = 0 ∨ hol (ls k).2 = true) → False := fun k hk h0 hlk => by
  obtain ⟨hc, hb⟩ := hall k hk
  unfold canW at hc
  rw [decide_eq_true h0] at hc
  have hc : canOp w k (thrAt w k) (instrAt w (thrAt w k)) = false := hc
  obtain ⟨j, s, hls⟩ : ∃ j s, ls k = (j, s) := ⟨_, _, rfl⟩
  have hr := (h.at_ k hk).run
  rw [hls] at hr hlk
  have hwt : ∀ w : Wd, ∀ t : Thr, bufAt w.tso k = [] → canOp w k t ⟨17, 5, 4, 0⟩ = true ∨ w.tso.depth < 0 := fun w t e => by
   by_cases h1 : w.tso.depth = 0
   ·left; show (_ || decide (w.tso.depth = 0)) = true; rw [decide_eq_true h1, Bool.or_true]
   ·by_cases h2 : 0 < w.tso.depth
    ·left
     show (decide (((bufAt w.tso k).length : Int) < w.tso.depth) || _) = true
     rw [e, decide_eq_true (show (([] : List Wput).length : Int) < w.tso.depth from h2), Bool.true_or]
    ·right; omega
  rcases hr with ⟨hj, hs, _⟩ | ⟨hj, hs, _⟩ | ⟨_, _, e⟩
  ·have hj : j < kT ts k := hj
   have hs : s ≤ 20 := hs
   have hcases : s = 0 ∨ s = 1 ∨ s = 2 ∨ s = 3 ∨ s = 4 ∨ s = 5 ∨ s = 6 ∨ s = 7 ∨ s = 8 ∨ s = 9 ∨ s = 10 ∨ s = 11 ∨ s = 12 ∨ s = 13 ∨ s = 14 ∨ s = 15 ∨ s = 16 ∨ s = 17 ∨ s = 18 ∨ s = 19 ∨ s = 20 := by omega
   have go : ∀ {s : Nat} {i : Ins}, Here ts w ls c k j s i → canOp w k (thrAt w k) i = true → False := fun H e => by rw [H.hi, e] at hc; cases hc
   have e0 : decide ((bufAt w.tso k).length = 0) = true := by rw [hb]; rfl
   rcases hcases with rfl | rfl | rfl | rfl | rfl | rfl | rfl | rfl | rfl | rfl | rfl | rfl | rfl | rfl | rfl | rfl | rfl | rfl | rfl | rfl | rfl
   ·exact go (here hw h hk hls hj h0 (turn_at (o := 0) hk hj (by decide) rfl)) rfl
   ·exact go (here hw h hk hls hj h0 (turn_at (o := 1) hk hj (by decide) rfl)) rfl
   ·exact go (here hw h hk hls hj h0 (lock_at (o := 0) (by decide) rfl)) rfl
   ·exact go (here hw h hk hls hj h0 (lock_at (o := 1) (by decide) rfl)) rfl
   ·exact go (here hw h hk hls hj h0 (lock_at (o := 2) (by decide) rfl)) e0
   ·exact go (here hw h hk hls hj h0 (lock_at (o := 3) (by decide) rfl)) rfl
   ·have H := here hw h hk hls hj h0 (lock_at (o := 4) (by decide) rfl)
    refine go H ?_
    have hlk : lk = 0 := by rcases hlk with e | e; exact e; cases e
    show (decide ((bufAt w.tso k).length = 0) && (!decide ((mLoad w.tso.mem (g0 (thrAt w k).regs 0)).2 = 0) || !decide ((mLoad w.tso.mem (g0 (thrAt w k).regs 0)).1 = g0 (thrAt w k).regs 1))) = true
    rw [e0, H.rg.1, H.rg.2, h.mem, hlk]; rfl
   ·exact go (here hw h hk hls hj h0 (lock_at (o := 5) (by decide) rfl)) rfl
   ·exact go (here hw h hk hls hj h0 (lock_at (o := 3) (by decide) rfl)) rfl
   ·exact go (here hw h hk hls hj h0 (lock_at (o := 6) (by decide) rfl)) rfl
   ·exact go (here hw h hk hls hj h0 (turn_at (o := 2) hk hj (by decide) rfl)) rfl
   ·exact go (here hw h hk hls hj h0 (turn_at (o := 3) hk hj (by decide) rfl)) rfl
   ·exact go (here hw h hk hls hj h0 (turn_at (o := 4) hk hj (by decide) rfl)) rfl
   ·exact go (here hw h hk hls hj h0 (turn_at (o := 5) hk hj (by decide) rfl)) rfl
   ·refine go (here hw h hk hls hj h0 (turn_at (o := 6) hk hj (by decide) rfl)) ((hwt w _ hb).resolve_right ?_)
    have := hw.tso.sz.2.1
    omega
   ·exact go (here hw h hk hls hj h0 (turn_at (o := 7) hk hj (by decide) rfl)) rfl
   ·exact go (here hw h hk hls hj h0 (turn_at (o := 8) hk hj (by decide) rfl)) rfl
   ·exact go (here hw h hk hls hj h0 (turn_at (o := 9) hk hj (by decide) rfl)) rfl
   ·exact go (here hw h hk hls hj h0 (lock_at (o := 7) (by decide) rfl)) rfl
   ·exact go (here hw h hk hls hj h0 (lock_at (o := 8) (by decide) rfl)) e0
   ·exact go (here hw h hk hls hj h0 (lock_at (o := 9) (by decide) rfl)) rfl
  ·have hj : j = kT ts k := hj
   have hs : s = 0 := hs
   subst hj hs
   have hpc : (thrAt w k).pc = ((spAt ts k + 10 * kT ts k : Nat) : Int) := by have := (h.at_ k hk).pc h0; rw [hls] at this; exact this
   have hii : instrAt w (thrAt w k) = ⟨0, 0, 0, 0⟩ := instr_of hpc (by rw [h.code, kT_at hk]; exact code_halt ts hk)
   rw [hii] at hc; cases hc
  ·rw [h0] at e; exact absurd e (by decide)
 have hlk : lk = 0 := by
  rcases h.own with ⟨a, _⟩ | ⟨_, q, b, d, _⟩
  ·exact a
  ·exfalso
   refine hcan q b ?_ (.inr d)
   rcases (h.at_ q b).run with ⟨_, _, e⟩ | ⟨_, _, e⟩ | ⟨_, e, _⟩
   ·exact e
   ·exact e
   ·rw [e] at d; cases d
 intro i hi'
 rcases (h.at_ i hi').run with ⟨_, _, e⟩ | ⟨_, _, e⟩ | ⟨e1, e2, e⟩
 ·exact absurd (hcan i hi' e (.inl hlk)) id
 ·exact absurd (hcan i hi' e (.inl hlk)) id
 ·exact ⟨Prod.ext e1 e2, e⟩
end
end Go.AL
end
section
set_option maxRecDepth 100000
namespace Go.AL
open Go Go.Proofs
attribute [local irreducible] J
def four (n : Int) : Int := (IntKind.i64.wrap (n.tmod 4 + 4)).tmod 4
theorem four_bd (n : Int) : 0 ≤ four n ∧ four n ≤ 3 := by
 unfold four
 have h1 := tmod_bd n (n := 4) (by omega)
 rw [wrap_id (by omega : -9223372036854775808 ≤ n.tmod 4 + 4) (by omega)]
 have h2 := tmod_bd (n.tmod 4 + 4) (n := 4) (by omega)
 have h3 := tmod_nn (k := n.tmod 4 + 4) (n := 4) (by omega)
 omega
def someT (ts : List Int) : List Int := cond (decide (ts.take 4 = [])) [1] ((ts.take 4).map four)
theorem someT_ok (ts : List Int) : turnsOk (someT ts) = true ∧ (someT ts).length ≤ 4 := by
 unfold someT
 cases h : decide (ts.take 4 = []) with
 | true => exact ⟨(by decide +kernel : turnsOk [1] = true), (by decide : ([1] : List Int).length ≤ 4)⟩
 | false =>
  have hne := of_decide_eq_false h
  have hl : (ts.take 4).length ≤ 4 := by rw [List.length_take]; omega
  have hp := List.length_pos_iff.2 hne
  simp only [cond_false]
  refine ⟨turnsOk_iff.2 ⟨fun n hn => ?_, by rw [List.length_map]; omega, by rw [List.length_map]; omega⟩, by rw [List.length_map]; exact hl⟩
  obtain ⟨m, _, rfl⟩ := List.mem_map.1 hn
  have := four_bd m
  omega
theorem some_ok (ts : List Int) (d : Int) : ACalls Tryz.prog 15 [ivs ts, iv d] [] (one (.tup [ivs (someT ts), iv (nine d)]) []) := by
 have m1 : (if (4 : Int) < (((ts.map iv).length : Nat) : Int) then (4 : Int) else (((ts.map iv).length : Nat) : Int)) = ((min ts.length 4 : Nat) : Int) := by rw [List.length_map]; split <;> omega
 have hl : (ts.take 4).length ≤ 4 := by rw [List.length_take]; omega
 have h4 : (4 : Int) ≠ 0 := by decide
 have h9 : (9 : Int) ≠ 0 := by decide
 unfold someT
 unfold ivs
 refine jcalls Tryz.func15 rfl (by kernel_rfl) Tryz.ntmps15 rfl rfl (fun w0 β0 ext hβ => ?_)
 repeat (first | refine jad 6 3 1 rfl rfl rfl rfl ?_ | refine jS ?_ | refine jD ?_ | refine jB ?_)
 refine jo rfl rfl (cut_take 4 rfl rfl rfl m1 rfl rfl rfl (fun _ => ⟨rfl, rfl⟩)) rfl rfl ?_
 repeat (first | refine jS ?_ | refine jD ?_ | refine jB ?_)
 generalize ts.take 4 = t at *
 refine jloopI (fun q : Nat => q ≤ t.length) [1, 6, 13, 14, 15] (fun q => [iv d, .arr 0 (q + 1), .sl (t.map iv), .v (.int .i64 ((t.map iv).length : Int)), .v (.int .i64 (q : Int))])
  (fun q => [.arr (q + 1) 3 1 (((t.take q).map four).map iv)]) (fun q => t.length - q) 0 (Nat.zero_le _) rfl rfl (fun q hq => ?_)
 repeat (first | refine jS ?_ | refine jD ?_ | refine jB ?_)
 refine jc rfl rfl rfl (fun h => ?_) (fun h => ?_)
 ·have h := of_decide_eq_true h
  rw [List.length_map] at h
  have hq2 : q < t.length := by omega
  have hidx : IntKind.i64.wrap ((q : Int) + 1) = ((q + 1 : Nat) : Int) := idx_next hq2 (by omega)
  have htk : (t.take q).map four ++ [four (at' t (q : Int))] = (t.take (q + 1)).map four := by rw [at_nat t q hq2, List.take_succ_eq_append_getElem hq2, List.map_append]; rfl
  have hln : ((t.take q).map four).length ≤ 4 := by rw [List.length_map, List.length_take]; omega
  repeat (first | refine jS ?_ | refine jD ?_ | refine jB ?_ | refine jo rfl rfl (index_at rfl rfl rfl rfl rfl rfl rfl rfl (Int.natCast_nonneg q) h) rfl rfl ?_ | refine jo rfl rfl (rem_op rfl rfl h4) rfl rfl ?_)
  refine jo rfl rfl (append_enc (enc := iv) (l := (t.take q).map four) (four (at' t (q : Int))) rfl rfl rfl rfl rfl rfl rfl rfl rfl rfl (fun x => ⟨rfl, rfl⟩) rfl (by omega) rfl rfl) rfl rfl ?_
  rw [htk]
  repeat (first | refine jS ?_ | refine jD ?_ | refine jB ?_)
  refine jnextI (q + 1) hq2 ?_ rfl (by omega)
  show some _ = some _
  rw [hidx]
 ·have h := of_decide_eq_false h
  rw [List.length_map] at h
  have : q = t.length := by omega
  subst this
  rw [List.take_length]
  refine jpub 6 rfl rfl rfl rfl ?_
  repeat (first | refine jS ?_ | refine jD ?_ | refine jB ?_)
  by_cases hs : t = []
  ·rw [decide_eq_true hs]
   subst hs
   repeat (first | refine jS ?_ | refine jD ?_ | refine jB ?_ | refine jo rfl rfl (rem_op rfl rfl h9) rfl rfl ?_)
   exact jret [] true rfl rfl rfl ⟨rfl, rfl⟩
  ·rw [decide_eq_false hs]
   rw [show (((((t.map four).map iv).length : Nat) : Int) == 0) = false from by
    rw [beq_eq_false_iff_ne, List.length_map, List.length_map]
    have := List.length_pos_iff.2 hs
    omega]
   repeat (first | refine jS ?_ | refine jD ?_ | refine jB ?_ | refine jo rfl rfl (rem_op rfl rfl h9) rfl rfl ?_)
   exact jret [] true rfl rfl rfl ⟨rfl, rfl⟩
end Go.AL
end
section
set_option maxRecDepth 100000
namespace Go.AL
open Go Go.Proofs
attribute [local irreducible] J
end Go.AL
end
section
set_option maxRecDepth 100000
namespace Go.AL
open Go Go.Proofs
attribute [local irreducible] J
end Go.AL
end
section
set_option maxRecDepth 100000
namespace Go.AL
open Go Go.Proofs
attribute [local irreducible] J
end Go.AL
end
section
set_option maxRecDepth 100000
namespace Go.AL
open Go Go.Proofs
attribute [local irreducible] J
end Go.AL
end
section
set_option maxRecDepth 100000
namespace Go.AL
open Go Go.Proofs
attribute [local irreducible] J
def lod (m : Mem) (k : Int) : Int × Int := cond (mRight m) (mLoad m k) (0, 1)
def toQ (m : Mem) (t0 : Int) : Nat → Int
 | 0 => t0
 | q + 1 => (lod m (IntKind.i64.wrap (toQ m t0 q + 2))).1
structure RdOk (m : Mem) (t0 : Int) (K : Nat) : Prop where
 le : K ≤ 12
 go : ∀ q, q < K → toQ m t0 q ≠ 0 ∧ (lod m (toQ m t0 q)).2 = 0 ∧ (lod m (IntKind.i64.wrap (toQ m t0 q + 1))).2 = 0 ∧ (lod m (IntKind.i64.wrap (toQ m t0 q + 2))).2 = 0
 stop : toQ m t0 K = 0
end Go.AL
end
section
set_option maxRecDepth 100000
namespace Go.AL
open Go Go.Proofs
attribute [local irreducible] J
theorem g0_q (l : List Int) (q : Nat) : g0 l q = (l[q]?).getD 0 := by unfold g0; exact List.getD_eq_getElem?_getD ..
end Go.AL
end
section
set_option maxRecDepth 100000
namespace Go.AL
open Go Go.Proofs
attribute [local irreducible] J
theorem some_few (ts : List Int) (i : Nat) : kT (someT ts) i ≤ 3 := by
 unfold kT
 rw [List.getD_eq_getElem?_getD]
 cases e : (someT ts)[i]? with
 | none => decide
 | some x =>
  have hm := List.mem_of_getElem? e
  show x.toNat ≤ 3
  unfold someT at hm
  cases h : decide (ts.take 4 = []) with
  | true =>
   rw [h] at hm
   have : x = 1 := List.mem_singleton.1 hm
   omega
  | false =>
   rw [h] at hm
   obtain ⟨m, _, rfl⟩ := List.mem_map.1 hm
   have := four_bd m
   omega
theorem run_spy {ts : List Int} (ht : turnsOk ts = true) {d : Int} (hd : inn d 0 8 = true) (l : List Act) : WdR (runW (spO ts d) l).1 ∧ SpY ts (runW (spO ts d) l).1 := by
 have hw := (spW_good ht hd).2
 exact ⟨(runW_right hw l 0).1, run_keep (sp_keeps ht) l _ 0 hw (sp_start ht d)⟩
theorem cnt_succ (kd : Int) (l : List Evt) {q : Nat} (h : q < l.length) : cntE kd (l.take (q + 1)) = cntE kd (l.take q) + cond (decide ((at' l (q : Int)).kind = kd)) 1 0 := by
 rw [List.take_succ_eq_append_getElem h, cntE_snoc, at_nat l q h]
theorem cnt_le (kd : Int) (l : List Evt) : cntE kd l ≤ l.length := List.length_filter_le _ _
theorem spc_law (g : Gl) (ts : List Int) (d : Int) (acts : List Act) : ACalls Tryz.prog 5 [ivs ts, iv d, .sl (acts.map encAct)] (gls g) (one (bv true) (gls g)) := by
 have h0 := some_ok ts d
 obtain ⟨hT, hl4⟩ := someT_ok ts
 obtain ⟨d0, d8⟩ := nine_bd d
 generalize someT ts = t at *
 generalize nine d = e at *
 have hd : inn e 0 8 = true := inn_iff.2 ⟨d0, d8⟩
 obtain ⟨e2, e3⟩ := spW_good hT hd
 have h2 := spworld_ok g t e (by omega)
 rw [e2] at h2
 have hl3 : (acts.take 400).length ≤ 400 := by rw [List.length_take]; omega
 have m1 : (if (400 : Int) < (((acts.map encAct).length : Nat) : Int) then (400 : Int) else (((acts.map encAct).length : Nat) : Int)) = ((min acts.length 400 : Nat) : Int) := by rw [List.length_map]; split <;> omega
 generalize hL : acts.take 400 = l at *
 obtain ⟨_, ls, c, lk, ind, hI⟩ := run_spy hT hd l
 have hev : (spO t e).evs = [] := rfl
 generalize spO t e = w at *
 have h3 := run_ok w l e3 (by rw [hev]; decide) (by omega)
 obtain ⟨b1, b2, b3⟩ := runW_sz e3 (by rw [hev]; decide) l (by omega)
 have hevs : (runW w l).1.evs.length ≤ 400 := by have := (runW_right e3 l 0).2.1; rw [hev] at this; exact Nat.le_trans this (by simpa using hl3)
 have h6 := spalive_ok g
 generalize runW w l = r at *
 obtain ⟨x, n⟩ := r
 simp only at h3 hI hevs
 clear e2 e3 hev b1 b2 b3
 have hmem : x.tso.mem.words = [0, lk, (c : Int)] := by rw [hI.mem]
 have hfin : (lk = 0 ∧ cntE 2 x.evs = c ∧ cntE 3 x.evs = c) ∨ (lk = 1 ∧ c ≤ cntE 2 x.evs ∧ cntE 3 x.evs ≤ c + 1) := by
  rcases hI.own with ⟨a, b, d, _⟩ | ⟨a, q, b, d, _, f, g⟩
  ·exact .inl ⟨a, by omega, by omega⟩
  ·refine .inr ⟨a, ?_, ?_⟩
   ·have : cond (decide ((ls q).2 = 15)) 1 0 ≤ cond (ins1 (ls q).2) 1 0 := by
     by_cases e : (ls q).2 = 15
     ·rw [e]; exact Nat.le_refl _
     ·rw [decide_eq_false e]; exact Nat.zero_le _
    omega
   ·have : (bufAt x.tso q).length ≤ 1 := by
     rcases hI.buf q b with e | ⟨_, _, e⟩
     ·rw [e]; exact Nat.zero_le _
     ·rw [e]; exact Nat.le_refl _
    omega
 have hc : c ≤ 1000 := hI.few hT
 clear hI
 unfold gls at *
 unfold encWd wCells ivs at *
 rw [hmem] at h3
 refine jcalls Tryz.func5 rfl (by kernel_rfl) Tryz.ntmps5 rfl rfl (fun w0 β0 ext hβ => ?_)
 repeat (first | refine jS ?_ | refine jD ?_ | refine jB ?_ | refine jV h0 ?_)
 refine jb [0,1,2,3] h2 rfl rfl rfl ⟨rfl, rfl, rfl, rfl, rfl, rfl⟩ rfl rfl rfl rfl ?_
 repeat (first | refine jS ?_ | refine jD ?_ | refine jB ?_)
 refine jo rfl rfl (cut_take 400 rfl rfl rfl m1 rfl rfl rfl (fun _ => ⟨rfl, rfl⟩)) rfl rfl ?_
 rw [hL]
 repeat (first | refine jS ?_ | refine jD ?_ | refine jB ?_ | refine jV h3 ?_)
 refine jb [0,1,2,3] h6 rfl rfl rfl ⟨rfl, rfl, rfl, rfl, rfl, rfl⟩ rfl rfl rfl rfl ?_
 repeat (first | refine jS ?_ | refine jD ?_ | refine jB ?_)
 refine jloop 6 (fun q : Nat => q ≤ x.evs.length) [9, 12, 13, 60, 61, 62] (fun q => [.ptr 5 0, .v (.int .i64 ((cntE 2 (x.evs.take q) : Nat) : Int)), .v (.int .i64 ((cntE 3 (x.evs.take q) : Nat) : Int)), .sl (x.evs.map encEvt), .v (.int .i64 ((x.evs.map encEvt).length : Int)), .v (.int .i64 (q : Int))])
  (fun q => _) (fun q => x.evs.length - q) 0 (by show β0.length ≤ 6; rw [hβ]; exact (by decide : 4 ≤ 6)) (Nat.zero_le _) rfl rfl (fun q hq => ?_)
 repeat (first | refine jS ?_ | refine jD ?_ | refine jB ?_)
 refine jc rfl rfl rfl (fun h => ?_) (fun h => ?_)
 ·have h := of_decide_eq_true h
  rw [List.length_map] at h
  have hq2 : q < x.evs.length := by omega
  have hidx : IntKind.i64.wrap ((q : Int) + 1) = ((q + 1 : Nat) : Int) := idx_next hq2 (by omega)
  have c2 := cnt_succ 2 x.evs hq2
  have c3 := cnt_succ 3 x.evs hq2
  have l2 := cnt_le 2 (x.evs.take q)
  have l3 := cnt_le 3 (x.evs.take q)
  have ll : (x.evs.take q).length ≤ q := by rw [List.length_take]; omega
  have w2 : IntKind.i64.wrap (((cntE 2 (x.evs.take q) : Nat) : Int) + 1) = ((cntE 2 (x.evs.take q) + 1 : Nat) : Int) := by rw [wrap_id (by omega) (by omega)]; rfl
  have w3 : IntKind.i64.wrap (((cntE 3 (x.evs.take q) : Nat) : Int) + 1) = ((cntE 3 (x.evs.take q) + 1 : Nat) : Int) := by rw [wrap_id (by omega) (by omega)]; rfl
  repeat (first | refine jS ?_ | refine jD ?_ | refine jB ?_ | refine jo rfl rfl (index_at rfl rfl rfl rfl rfl rfl rfl rfl (Int.natCast_nonneg q) h) rfl rfl ?_)
  generalize at' x.evs (q : Int) = ev at *
  by_cases k2 : ev.kind = 2
  ·rw [show (ev.kind == 2) = true from by rw [k2]; rfl]
   repeat (first | refine jS ?_ | refine jD ?_ | refine jB ?_)
   rw [show (ev.kind == 3) = false from by rw [k2]; rfl]
   repeat (first | refine jS ?_ | refine jD ?_ | refine jB ?_)
   refine jnext (q + 1) hq2 (by omega) rfl rfl rfl ?_ rfl
   rw [hidx, c2, c3, k2, w2]; rfl
  ·rw [show (ev.kind == 2) = false from beq_eq_false_iff_ne.2 k2]
   repeat (first | refine jS ?_ | refine jD ?_ | refine jB ?_)
   by_cases k3 : ev.kind = 3
   ·rw [show (ev.kind == 3) = true from by rw [k3]; rfl]
    repeat (first | refine jS ?_ | refine jD ?_ | refine jB ?_)
    refine jnext (q + 1) hq2 (by omega) rfl rfl rfl ?_ rfl
    rw [hidx, c2, c3, k3, w3]; rfl
   ·rw [show (ev.kind == 3) = false from beq_eq_false_iff_ne.2 k3]
    repeat (first | refine jS ?_ | refine jD ?_ | refine jB ?_)
    refine jnext (q + 1) hq2 (by omega) rfl rfl rfl ?_ rfl
    rw [hidx, c2, c3, decide_eq_false k2, decide_eq_false k3]; rfl
 ·have h := of_decide_eq_false h
  rw [List.length_map] at h
  have : q = x.evs.length := by omega
  subst this
  rw [List.take_length]
  have i1 : (0 : Int) ≤ 1 := by decide
  have j1 : (1 : Int) < ([0, lk, (c : Int)] : List Int).length := (by decide : (1 : Int) < 3)
  have i2 : (0 : Int) ≤ 2 := by decide
  have j2 : (2 : Int) < ([0, lk, (c : Int)] : List Int).length := (by decide : (2 : Int) < 3)
  repeat (first | refine jS ?_ | refine jD ?_ | refine jB ?_ | refine jo rfl rfl (index_at rfl rfl rfl rfl rfl rfl rfl rfl i1 j1) rfl rfl ?_ | refine jo rfl rfl (index_at rfl rfl rfl rfl rfl rfl rfl rfl i2 j2) rfl rfl ?_)
  rw [show at' ([0, lk, (c : Int)] : List Int) 1 = lk from rfl, show at' ([0, lk, (c : Int)] : List Int) 2 = c from rfl]
  generalize cntE 2 x.evs = B at *
  generalize cntE 3 x.evs = M at *
  rcases hfin with ⟨rfl, rfl, rfl⟩ | ⟨rfl, f1, f2⟩
  ·have e1 : (((M : Nat) : Int) != (M : Int)) = false := by simp
   have e2 : decide (((M : Nat) : Int) ≤ (M : Int)) = true := decide_eq_true (Int.le_refl _)
   have e3 : IntKind.i64.wrap ((M : Int) - 1) = (M : Int) - 1 := wrap_id (by omega) (by omega)
   have e4 : decide (((M : Nat) : Int) ≥ (M : Int) - 1) = true := decide_eq_true (by omega)
   repeat (first | refine jS ?_ | refine jD ?_ | refine jB ?_)
   rw [e1]
   repeat (first | refine jS ?_ | refine jD ?_ | refine jB ?_)
   rw [e1]
   repeat (first | refine jS ?_ | refine jD ?_ | refine jB ?_)
   rw [e2]
   repeat (first | refine jS ?_ | refine jD ?_ | refine jB ?_)
   rw [e3, e4]
   repeat (first | refine jS ?_ | refine jD ?_ | refine jB ?_)
   exact jR
  ·have e2 : decide (((c : Nat) : Int) ≤ (B : Int)) = true := decide_eq_true (by omega)
   have e3 : IntKind.i64.wrap ((M : Int) - 1) = (M : Int) - 1 := wrap_id (by omega) (by omega)
   have e4 : decide (((c : Nat) : Int) ≥ (M : Int) - 1) = true := decide_eq_true (by omega)
   repeat (first | refine jS ?_ | refine jD ?_ | refine jB ?_)
   rw [e2]
   repeat (first | refine jS ?_ | refine jD ?_ | refine jB ?_)
   rw [e3, e4]
   repeat (first | refine jS ?_ | refine jD ?_ | refine jB ?_)
   exact jR
end Go.AL
end
section
set_option maxRecDepth 100000
namespace Go.AL
open Go Go.Proofs
attribute [local irreducible] J
theorem scE_pre {n : Nat} {l : List Evt} {s : Sc} (h : scE n l = some s) (q : Nat) : ∃ s', scE n (l.take q) = some s' := by
 rw [← List.take_append_drop q l] at h
 unfold scE at h ⊢
 rw [List.foldl_append] at h
 cases e : (l.take q).foldl (fun o e => o.bind fun s => scStep n s e) (some ⟨-1, List.replicate n 0, List.replicate n 0⟩) with
 | some s' => exact ⟨s', rfl⟩
 | none =>
  rw [e] at h
  exfalso
  generalize l.drop q = r at h
  induction r with
  | nil => cases h
  | cons x r ih => exact ih h
def scA (n : Nat) (l : List Evt) (q : Nat) : Sc := (scE n (l.take q)).getD ⟨-1, [], []⟩
theorem scA_eq {n : Nat} {l : List Evt} {s : Sc} (h : scE n l = some s) (q : Nat) : scE n (l.take q) = some (scA n l q) := by
 obtain ⟨s', e⟩ := scE_pre h q
 unfold scA
 rw [e]; rfl
theorem scA_step {n : Nat} {l : List Evt} {s : Sc} (h : scE n l = some s) {q : Nat} (hq : q < l.length) : scStep n (scA n l q) (at' l (q : Int)) = some (scA n l (q + 1)) := by
 have h1 := scA_eq h (q + 1)
 rw [List.take_succ_eq_append_getElem hq, scE_snoc, scA_eq h q, ← at_nat l q hq] at h1
 exact h1
theorem scStep_ok {n : Nat} {s s' : Sc} {e : Evt} (h : scStep n s e = some s') : ∃ k : Nat, e.who = (k : Int) ∧ k < n ∧
  ((e.kind = 2 ∧ s.inside < 0 ∧ s' = ⟨(k : Int), inc s.ins k, s.outs⟩) ∨ (e.kind ≠ 2 ∧ e.kind = 3 ∧ s.inside = (k : Int) ∧ s' = ⟨-1, s.ins, inc s.outs k⟩)) := by
 unfold scStep at h
 by_cases hk : e.who < 0 ∨ e.who ≥ n
 ·have : (decide (e.who < 0) || decide (e.who ≥ n)) = true := by
   rw [Bool.or_eq_true]
   exact hk.elim (fun a => .inl (decide_eq_true a)) (fun a => .inr (decide_eq_true a))
  rw [this] at h; cases h
 ·have : (decide (e.who < 0) || decide (e.who ≥ n)) = false := by rw [Bool.or_eq_false_iff]; exact ⟨decide_eq_false fun a => hk (.inl a), decide_eq_false fun a => hk (.inr a)⟩
  rw [this] at h
  simp only [cond_false] at h
  have hw : e.who = ((e.who.toNat : Nat) : Int) := by omega
  refine ⟨e.who.toNat, hw, by omega, ?_⟩
  by_cases k2 : e.kind = 2
  ·left
   rw [decide_eq_true k2] at h
   simp only [cond_true] at h
   by_cases hi : s.inside ≥ 0
   ·rw [decide_eq_true hi] at h; cases h
   ·rw [decide_eq_false hi] at h
    cases h
    exact ⟨k2, by omega, by rw [← hw]⟩
  ·right
   rw [decide_eq_false k2] at h
   simp only [cond_false] at h
   by_cases k3 : e.kind = 3
   ·rw [decide_eq_true k3] at h
    simp only [cond_true] at h
    by_cases hi : s.inside = e.who
    ·rw [decide_eq_true hi] at h
     cases h
     exact ⟨k2, k3, by rw [← hw]; exact hi, rfl⟩
    ·rw [decide_eq_false hi] at h; cases h
   ·rw [decide_eq_false k3] at h; cases h
theorem g0_inc (l : List Int) (k j : Nat) : g0 (inc l k) j = g0 l j ∨ g0 (inc l k) j = g0 l j + 1 := by
 unfold inc
 rw [g0_q, g0_q, List.getElem?_set]
 by_cases e : k = j
 ·subst e
  rw [if_pos rfl]
  by_cases h : k < l.length
  ·rw [if_pos h, g0_q]; exact .inr rfl
  ·have e : l[k]? = none := List.getElem?_eq_none (by omega)
   rw [if_neg h, g0_q, e]; exact .inl rfl
 ·rw [if_neg e]; exact .inl rfl
theorem scA_bd {n : Nat} {l : List Evt} {s : Sc} (h : scE n l = some s) : ∀ q, q ≤ l.length → (scA n l q).ins.length = n ∧ (scA n l q).outs.length = n ∧ ∀ j, (0 ≤ g0 (scA n l q).ins j ∧ g0 (scA n l q).ins j ≤ q) ∧ (0 ≤ g0 (scA n l q).outs j ∧ g0 (scA n l q).outs j ≤ q)
 | 0, _ => by
  have h0 : ∀ j, g0 (List.replicate n 0) j = 0 := fun j => by
   rw [g0_q, List.getElem?_replicate]
   split <;> rfl
  refine ⟨List.length_replicate .., List.length_replicate .., fun j => ?_⟩
  show (0 ≤ g0 (List.replicate n 0) j ∧ g0 (List.replicate n 0) j ≤ _) ∧ (0 ≤ g0 (List.replicate n 0) j ∧ g0 (List.replicate n 0) j ≤ _)
  rw [h0]
  exact ⟨⟨Int.le_refl _, Int.le_refl _⟩, ⟨Int.le_refl _, Int.le_refl _⟩⟩
 | q + 1, hq => by
  obtain ⟨a, b, c⟩ := scA_bd h q (by omega)
  obtain ⟨k, _, _, h2⟩ := scStep_ok (scA_step h (show q < l.length by omega))
  have hl : ∀ (x : List Int), (inc x k).length = x.length := fun x => by unfold inc; simp
  rcases h2 with ⟨_, _, e⟩ | ⟨_, _, _, e⟩
  ·rw [e]
   refine ⟨by rw [hl]; exact a, b, fun j => ?_⟩
   have := c j
   have := g0_inc (scA n l q).ins k j
   simp only
   omega
  ·rw [e]
   refine ⟨a, by rw [hl]; exact b, fun j => ?_⟩
   have := c j
   have := g0_inc (scA n l q).outs k j
   simp only
   omega
theorem spi_law (g : Gl) (ts : List Int) (d : Int) (acts : List Act) : ACalls Tryz.prog 4 [ivs ts, iv d, .sl (acts.map encAct)] (gls g) (one (bv true) (gls g)) := by
 have h0 := some_ok ts d
 obtain ⟨hT, hl4⟩ := someT_ok ts
 obtain ⟨d0, d8⟩ := nine_bd d
 generalize someT ts = t at *
 generalize nine d = e at *
 have hd : inn e 0 8 = true := inn_iff.2 ⟨d0, d8⟩
 obtain ⟨e2, e3⟩ := spW_good hT hd
 have h2 := spworld_ok g t e (by omega)
 rw [e2] at h2
 have hl3 : (acts.take 400).length ≤ 400 := by rw [List.length_take]; omega
 have m1 : (if (400 : Int) < (((acts.map encAct).length : Nat) : Int) then (400 : Int) else (((acts.map encAct).length : Nat) : Int)) = ((min acts.length 400 : Nat) : Int) := by rw [List.length_map]; split <;> omega
 generalize hL : acts.take 400 = l at *
 obtain ⟨_, ls, c, lk, ind, hI⟩ := run_spy hT hd l
 have hev : (spO t e).evs = [] := rfl
 generalize spO t e = w at *
 have h3 := run_ok w l e3 (by rw [hev]; decide) (by omega)
 have hevs : (runW w l).1.evs.length ≤ 400 := by have := (runW_right e3 l 0).2.1; rw [hev] at this; exact Nat.le_trans this (by simpa using hl3)
 have h6 := spalive_ok g
 generalize runW w l = r at *
 obtain ⟨x, n⟩ := r
 simp only at h3 hI hevs
 have htl : x.thr.length = t.length := hI.len
 have hst : ∀ i, i < t.length → (at' x.thr (i : Int)).state ≠ 2 ∧ ((at' x.thr (i : Int)).state = 1 → outN (ls i) = kT t i) := fun i hi => by
  have hA := (hI.at_ i hi).run
  have ea : thrAt x i = at' x.thr (i : Int) := thrAt_at (by rw [htl]; exact hi)
  rw [ea] at hA
  rcases hA with ⟨_, _, e⟩ | ⟨_, _, e⟩ | ⟨e1, e2, e⟩
  ·exact ⟨by rw [e]; decide, fun h => by rw [e] at h; exact absurd h (by decide)⟩
  ·exact ⟨by rw [e]; decide, fun h => by rw [e] at h; exact absurd h (by decide)⟩
  ·refine ⟨by rw [e]; decide, fun _ => ?_⟩
   unfold outN
   rw [e1, e2]; rfl
 have hin : ∀ i, i < t.length → insN (ls i) ≤ kT t i := fun i hi => (hI.at_le hi).2.1
 have hsc := hI.sc
 have hkT : ∀ i, i < t.length → ((kT t i : Nat) : Int) = at' t (i : Int) := fun i hi => by
  obtain ⟨hn, _, _⟩ := turnsOk_iff.1 hT
  have := hn _ (List.getElem_mem hi)
  rw [kT_at hi, at_nat t i hi]; omega
 clear hI e2 e3 hev
 have hbd := scA_bd hsc
 have hstep := fun {q : Nat} (h : q < x.evs.length) => scA_step hsc h
 have hend : scA t.length x.evs x.evs.length = ⟨ind, tally t.length fun i => insN (ls i), tally t.length fun i => outN (ls i)⟩ := by
  have := scA_eq hsc x.evs.length
  rw [List.take_length, hsc] at this
  injection this with this
  exact this.symm
 have hbeg : scA t.length x.evs 0 = ⟨-1, List.replicate t.length 0, List.replicate t.length 0⟩ := rfl
 generalize scA t.length x.evs = σ at *
 unfold gls at *
 unfold encWd wCells ivs at *
 have ht0 : ((((x.thr.map encThr).length : Nat) : Int) != ((t.map iv).length : Nat)) = false := by rw [List.length_map, List.length_map, htl]; simp
 refine jcalls Tryz.func4 rfl (by kernel_rfl) Tryz.ntmps4 rfl rfl (fun w0 β0 ext hβ => ?_)
 repeat (first | refine jS ?_ | refine jD ?_ | refine jB ?_ | refine jV h0 ?_)
 refine jb [0,1,2,3] h2 rfl rfl rfl ⟨rfl, rfl, rfl, rfl, rfl, rfl⟩ rfl rfl rfl rfl ?_
 repeat (first | refine jS ?_ | refine jD ?_ | refine jB ?_)
 refine jo rfl rfl (cut_take 400 rfl rfl rfl m1 rfl rfl rfl (fun _ => ⟨rfl, rfl⟩)) rfl rfl ?_
 rw [hL]
 repeat (first | refine jS ?_ | refine jD ?_ | refine jB ?_ | refine jV h3 ?_)
 rw [ht0]
 repeat (first | refine jS ?_ | refine jD ?_ | refine jB ?_)
 refine jb [0,1,2,3] h6 rfl rfl rfl ⟨rfl, rfl, rfl, rfl, rfl, rfl⟩ rfl rfl rfl rfl ?_
 repeat (first | refine jS ?_ | refine jD ?_ | refine jB ?_)
 refine jloop 6 (fun q : Nat => q ≤ x.thr.length) [0, 9, 63, 64, 65] (fun q => [.sl (t.map iv), .ptr 5 0, .sl (x.thr.map encThr), .v (.int .i64 ((x.thr.map encThr).length : Int)), .v (.int .i64 (q : Int))])
  (fun q => _) (fun q => x.thr.length - q) 0 (by show β0.length ≤ 6; rw [hβ]; exact (by decide : 4 ≤ 6)) (Nat.zero_le _) rfl rfl (fun q hq => ?_)
 repeat (first | refine jS ?_ | refine jD ?_ | refine jB ?_)
 refine jc rfl rfl rfl (fun h => ?_) (fun h => ?_)
 ·have h := of_decide_eq_true h
  rw [List.length_map] at h
  have hq2 : q < x.thr.length := by omega
  have hidx : IntKind.i64.wrap ((q : Int) + 1) = ((q + 1 : Nat) : Int) := idx_next hq2 (by omega)
  have hs := (hst q (by omega)).1
  repeat (first | refine jS ?_ | refine jD ?_ | refine jB ?_ | refine jo rfl rfl (index_at rfl rfl rfl rfl rfl rfl rfl rfl (Int.natCast_nonneg q) h) rfl rfl ?_)
  generalize at' x.thr (q : Int) = T at *
  rw [show (T.state == 2) = false from beq_eq_false_iff_ne.2 hs]
  repeat (first | refine jS ?_ | refine jD ?_ | refine jB ?_)
  refine jnext (q + 1) hq2 (by omega) rfl rfl rfl ?_ rfl
  rw [hidx] <;> rfl
 ·repeat (first | refine jS ?_ | refine jB ?_)
  refine jfork [(0, .p), (1, .p), (3, .p), (4, .p), (6, .p)] (2, .x) [(5, .x), (7, .p), (8, .p)] (5, .x) [(2, .x), (7, .p), (8, .p)] rfl (by kernel_rfl) ?_
  repeat (first | refine jS ?_ | refine jD ?_ | refine jB ?_)
  refine jfk ?_ ?_
  ·refine jo rfl rfl (make_own t.length rfl rfl (by rw [List.length_map]) rfl rfl rfl rfl rfl rfl rfl (by decide) (by omega) rfl rfl) rfl rfl ?_
   refine jo rfl rfl (make_own t.length rfl rfl (by rw [List.length_map]) rfl rfl rfl rfl rfl rfl rfl (by decide) (by omega) rfl rfl) rfl rfl ?_
   repeat (first | refine jS ?_ | refine jD ?_ | refine jB ?_)
   refine jloop 8 (fun q : Nat => q ≤ x.evs.length) [0, 9, 14, 15, 16, 80, 81, 82] (fun q => [.sl (t.map iv), .ptr 5 0, .v (.int .i64 (σ q).inside), .arr 6 1, .arr 7 1, .sl (x.evs.map encEvt), .v (.int .i64 ((x.evs.map encEvt).length : Int)), .v (.int .i64 (q : Int))])
    (fun q => [g.a, g.b, g.c, g.d, .box 33 [.sl (w.code.map encIns), .sl (w.tso.mem.words.map iv), .sl (w.tso.mem.tags.map iv), iv w.tso.depth, .sl (w.tso.bufs.map encBuf), .sl (w.thr.map encThr), .sl (w.evs.map encEvt)], .box 33 [.sl (x.code.map encIns), .sl (x.tso.mem.words.map iv), .sl (x.tso.mem.tags.map iv), iv x.tso.depth, .sl (x.tso.bufs.map encBuf), .sl (x.thr.map encThr), .sl (x.evs.map encEvt)], .arr 1 3 1 ((σ q).ins.map iv), .arr 1 3 1 ((σ q).outs.map iv)]) (fun q => x.evs.length - q) 0 (by show β0.length ≤ 8; rw [hβ]; exact (by decide : 4 ≤ 8)) (Nat.zero_le _) (by rw [hbeg]; rfl) (by rw [hbeg]; simp only [List.map_replicate]; rfl) (fun q hq => ?_)
   repeat (first | refine jS ?_ | refine jD ?_ | refine jB ?_)
   refine jc rfl rfl rfl (fun h => ?_) (fun h => ?_)
   ·have h := of_decide_eq_true h
    rw [List.length_map] at h
    have hq2 : q < x.evs.length := by omega
    have hidx : IntKind.i64.wrap ((q : Int) + 1) = ((q + 1 : Nat) : Int) := idx_next hq2 (by omega)
    obtain ⟨k, ew, hk, hs⟩ := scStep_ok (hstep hq2)
    obtain ⟨l1, l2, hb⟩ := hbd q (by omega)
    have hb := hb k
    repeat (first | refine jS ?_ | refine jD ?_ | refine jB ?_ | refine jo rfl rfl (index_at rfl rfl rfl rfl rfl rfl rfl rfl (Int.natCast_nonneg q) h) rfl rfl ?_)
    generalize at' x.evs (q : Int) = ev at *
    rw [ew]
    repeat (first | refine jS ?_ | refine jD ?_ | refine jB ?_)
    rw [show decide ((k : Int) < 0) = false from decide_eq_false (by omega)]
    repeat (first | refine jS ?_ | refine jD ?_ | refine jB ?_)
    rw [show decide ((k : Int) ≥ (((t.map iv).length : Nat) : Int)) = false from decide_eq_false (by rw [List.length_map]; omega)]
    repeat (first | refine jS ?_ | refine jD ?_ | refine jB ?_)
    rcases hs with ⟨e2, hi, es⟩ | ⟨e2, e3, hi, es⟩
    ·rw [show (ev.kind == 2) = true from by rw [e2]; rfl]
     repeat (first | refine jS ?_ | refine jD ?_ | refine jB ?_)
     rw [show decide ((σ q).inside ≥ 0) = false from decide_eq_false (by omega)]
     have hwr : IntKind.i64.wrap (at' (σ q).ins (k : Int) + 1) = g0 (σ q).ins k + 1 := wrap_id (show -9223372036854775808 ≤ g0 (σ q).ins k + 1 by omega) (show g0 (σ q).ins k + 1 ≤ 9223372036854775807 by omega)
     repeat (first | refine jS ?_ | refine jD ?_ | refine jB ?_)
     refine jo rfl rfl (index_own (xs := (σ q).ins.map iv) (n := (k : Int)) rfl rfl rfl rfl rfl rfl (Int.natCast_nonneg k) (by rw [List.length_map]; omega)) rfl rfl ?_
     refine jo rfl rfl (load_own (v := iv (at' (σ q).ins (k : Int))) rfl rfl (map_at (by omega)) rfl rfl rfl) rfl rfl ?_
     repeat (first | refine jS ?_ | refine jD ?_ | refine jB ?_)
     rw [hwr]
     refine jo rfl rfl (index_own (xs := (σ q).ins.map iv) (n := (k : Int)) rfl rfl rfl rfl rfl rfl (Int.natCast_nonneg k) (by rw [List.length_map]; omega)) rfl rfl ?_
     refine jo rfl rfl (store_enc (enc := iv) (l := (σ q).ins) (l' := (σ q).ins.set k (g0 (σ q).ins k + 1)) rfl rfl rfl (map_at (by omega)) rfl rfl rfl rfl rfl (Nat.le_of_ble_eq_true rfl) (.inr ⟨rfl, rfl⟩) (put_at (enc := iv) rfl) rfl) rfl rfl ?_
     repeat (first | refine jS ?_ | refine jD ?_ | refine jB ?_)
     refine jnext (q + 1) hq2 (by omega) rfl rfl rfl ?_ ?_
     ·rw [hidx, es] <;> rfl
     ·rw [es] <;> rfl
    ·rw [show (ev.kind == 2) = false from beq_eq_false_iff_ne.2 e2]
     repeat (first | refine jS ?_ | refine jD ?_ | refine jB ?_)
     rw [show (ev.kind == 3) = true from by rw [e3]; rfl]
     repeat (first | refine jS ?_ | refine jD ?_ | refine jB ?_)
     rw [show ((σ q).inside != (k : Int)) = false from by rw [hi]; simp]
     have hwr : IntKind.i64.wrap (at' (σ q).outs (k : Int) + 1) = g0 (σ q).outs k + 1 := wrap_id (show -9223372036854775808 ≤ g0 (σ q).outs k + 1 by omega) (show g0 (σ q).outs k + 1 ≤ 9223372036854775807 by omega)
     repeat (first | refine jS ?_ | refine jD ?_ | refine jB ?_)
     refine jo rfl rfl (index_own (xs := (σ q).outs.map iv) (n := (k : Int)) rfl rfl rfl rfl rfl rfl (Int.natCast_nonneg k) (by rw [List.length_map]; omega)) rfl rfl ?_
     refine jo rfl rfl (load_own (v := iv (at' (σ q).outs (k : Int))) rfl rfl (map_at (by omega)) rfl rfl rfl) rfl rfl ?_
     repeat (first | refine jS ?_ | refine jD ?_ | refine jB ?_)
     rw [hwr]
     refine jo rfl rfl (index_own (xs := (σ q).outs.map iv) (n := (k : Int)) rfl rfl rfl rfl rfl rfl (Int.natCast_nonneg k) (by rw [List.length_map]; omega)) rfl rfl ?_
     refine jo rfl rfl (store_enc (enc := iv) (l := (σ q).outs) (l' := (σ q).outs.set k (g0 (σ q).outs k + 1)) rfl rfl rfl (map_at (by omega)) rfl rfl rfl rfl rfl (Nat.le_of_ble_eq_true rfl) (.inr ⟨rfl, rfl⟩) (put_at (enc := iv) rfl) rfl) rfl rfl ?_
     repeat (first | refine jS ?_ | refine jD ?_ | refine jB ?_)
     refine jnext (q + 1) hq2 (by omega) rfl rfl rfl ?_ ?_
     ·rw [hidx, es] <;> rfl
     ·rw [es] <;> rfl
   ·have h := of_decide_eq_false h
    rw [List.length_map] at h
    have : q = x.evs.length := by omega
    subst this
    obtain ⟨l1, l2, _⟩ := hbd x.evs.length (Nat.le_refl _)
    have f1 : ∀ i, i < t.length → g0 (σ x.evs.length).ins i ≤ at' t (i : Int) := fun i hi => by
     rw [hend, ← hkT i hi]
     show g0 (tally t.length fun i => insN (ls i)) i ≤ _
     rw [tally_at _ hi]
     have := hin i hi
     omega
    have f2 : ∀ i, i < t.length → (at' x.thr (i : Int)).state = 1 → g0 (σ x.evs.length).outs i = at' t (i : Int) := fun i hi h1 => by
     rw [hend, ← hkT i hi]
     show g0 (tally t.length fun i => outN (ls i)) i = _
     rw [tally_at _ hi, (hst i hi).2 h1]
    clear hend hbeg hstep hbd
    generalize σ x.evs.length = S at *
    repeat (first | refine jS ?_ | refine jD ?_ | refine jB ?_)
    refine jloop 8 (fun i : Nat => i ≤ t.length) [9, 15, 16, 124, 125, 126] (fun i => [.ptr 5 0, .arr 6 1, .arr 7 1, .sl (t.map iv), .v (.int .i64 ((t.map iv).length : Int)), .v (.int .i64 (i : Int))])
     (fun i => [g.a, g.b, g.c, g.d, .box 33 [.sl (w.code.map encIns), .sl (w.tso.mem.words.map iv), .sl (w.tso.mem.tags.map iv), iv w.tso.depth, .sl (w.tso.bufs.map encBuf), .sl (w.thr.map encThr), .sl (w.evs.map encEvt)], .box 33 [.sl (x.code.map encIns), .sl (x.tso.mem.words.map iv), .sl (x.tso.mem.tags.map iv), iv x.tso.depth, .sl (x.tso.bufs.map encBuf), .sl (x.thr.map encThr), .sl (x.evs.map encEvt)], .arr 1 3 1 (S.ins.map iv), .arr 1 3 1 (S.outs.map iv)]) (fun i => t.length - i) 0 (by show β0.length ≤ 8; rw [hβ]; exact (by decide : 4 ≤ 8)) (Nat.zero_le _) rfl rfl (fun i hi => ?_)
    repeat (first | refine jS ?_ | refine jD ?_ | refine jB ?_)
    refine jc rfl rfl rfl (fun h => ?_) (fun h => ?_)
    ·have h := of_decide_eq_true h
     rw [List.length_map] at h
     have hi2 : i < t.length := by omega
     have hidx : IntKind.i64.wrap ((i : Int) + 1) = ((i + 1 : Nat) : Int) := idx_next hi2 (by omega)
     have g1 := f1 i hi2
     have g2 := f2 i hi2
     have hti : (i : Int) < x.thr.length := by omega
     repeat (first | refine jS ?_ | refine jD ?_ | refine jB ?_ | refine jo rfl rfl (index_at rfl rfl rfl rfl rfl rfl rfl rfl (Int.natCast_nonneg i) h) rfl rfl ?_)
     refine jo rfl rfl (index_own (xs := S.ins.map iv) (n := (i : Int)) rfl rfl rfl rfl rfl rfl (Int.natCast_nonneg i) (by rw [List.length_map]; omega)) rfl rfl ?_
     refine jo rfl rfl (load_own (v := iv (g0 S.ins i)) rfl rfl (map_at (by omega)) rfl rfl rfl) rfl rfl ?_
     generalize at' t (i : Int) = v at *
     repeat (first | refine jS ?_ | refine jD ?_ | refine jB ?_)
     rw [show decide (g0 S.ins i > v) = false from decide_eq_false (by omega)]
     repeat (first | refine jS ?_ | refine jD ?_ | refine jB ?_ | refine jo rfl rfl (index_at rfl rfl rfl rfl rfl rfl rfl rfl (Int.natCast_nonneg i) hti) rfl rfl ?_)
     generalize at' x.thr (i : Int) = T at *
     by_cases hs : T.state = 1
     ·rw [show (T.state == 1) = true from by rw [hs]; rfl]
      repeat (first | refine jS ?_ | refine jD ?_ | refine jB ?_)
      refine jo rfl rfl (index_own (xs := S.outs.map iv) (n := (i : Int)) rfl rfl rfl rfl rfl rfl (Int.natCast_nonneg i) (by rw [List.length_map]; omega)) rfl rfl ?_
      refine jo rfl rfl (load_own (v := iv (g0 S.outs i)) rfl rfl (map_at (by omega)) rfl rfl rfl) rfl rfl ?_
      repeat (first | refine jS ?_ | refine jD ?_ | refine jB ?_)
      rw [show (g0 S.outs i != v) = false from by rw [g2 hs]; simp]
      repeat (first | refine jS ?_ | refine jD ?_ | refine jB ?_)
      refine jnext (i + 1) hi2 (by omega) rfl rfl rfl ?_ rfl
      rw [hidx] <;> rfl
     ·rw [show (T.state == 1) = false from beq_eq_false_iff_ne.2 hs]
      repeat (first | refine jS ?_ | refine jD ?_ | refine jB ?_)
      refine jnext (i + 1) hi2 (by omega) rfl rfl rfl ?_ rfl
      rw [hidx] <;> rfl
    ·repeat (first | refine jS ?_ | refine jD ?_ | refine jB ?_)
     exact jret [] true rfl rfl rfl ⟨rfl, rfl⟩
  ·refine jo rfl rfl (make_own t.length rfl rfl (by rw [List.length_map]) rfl rfl rfl rfl rfl rfl rfl (by decide) (by omega) rfl rfl) rfl rfl ?_
   refine jo rfl rfl (make_own t.length rfl rfl (by rw [List.length_map]) rfl rfl rfl rfl rfl rfl rfl (by decide) (by omega) rfl rfl) rfl rfl ?_
   repeat (first | refine jS ?_ | refine jD ?_ | refine jB ?_)
   refine jloop 8 (fun q : Nat => q ≤ x.evs.length) [0, 9, 14, 15, 16, 80, 81, 82] (fun q => [.sl (t.map iv), .ptr 5 0, .v (.int .i64 (σ q).inside), .arr 7 1, .arr 6 1, .sl (x.evs.map encEvt), .v (.int .i64 ((x.evs.map encEvt).length : Int)), .v (.int .i64 (q : Int))])
    (fun q => [g.a, g.b, g.c, g.d, .box 33 [.sl (w.code.map encIns), .sl (w.tso.mem.words.map iv), .sl (w.tso.mem.tags.map iv), iv w.tso.depth, .sl (w.tso.bufs.map encBuf), .sl (w.thr.map encThr), .sl (w.evs.map encEvt)], .box 33 [.sl (x.code.map encIns), .sl (x.tso.mem.words.map iv), .sl (x.tso.mem.tags.map iv), iv x.tso.depth, .sl (x.tso.bufs.map encBuf), .sl (x.thr.map encThr), .sl (x.evs.map encEvt)], .arr 1 3 1 ((σ q).outs.map iv), .arr 1 3 1 ((σ q).ins.map iv)]) (fun q => x.evs.length - q) 0 (by show β0.length ≤ 8; rw [hβ]; exact (by decide : 4 ≤ 8)) (Nat.zero_le _) (by rw [hbeg]; rfl) (by rw [hbeg]; simp only [List.map_replicate]; rfl) (fun q hq => ?_)
   repeat (first | refine jS ?_ | refine jD ?_ | refine jB ?_)
   refine jc rfl rfl rfl (fun h => ?_) (fun h => ?_)
   ·have h := of_decide_eq_true h
    rw [List.length_map] at h
    have hq2 : q < x.evs.length := by omega
    have hidx : IntKind.i64.wrap ((q : Int) + 1) = ((q + 1 : Nat) : Int) := idx_next hq2 (by omega)
    obtain ⟨k, ew, hk, hs⟩ := scStep_ok (hstep hq2)
    obtain ⟨l1, l2, hb⟩ := hbd q (by omega)
    have hb := hb k
    repeat (first | refine jS ?_ | refine jD ?_ | refine jB ?_ | refine jo rfl rfl (index_at rfl rfl rfl rfl rfl rfl rfl rfl (Int.natCast_nonneg q) h) rfl rfl ?_)
    generalize at' x.evs (q : Int) = ev at *
    rw [ew]
    repeat (first | refine jS ?_ | refine jD ?_ | refine jB ?_)
    rw [show decide ((k : Int) < 0) = false from decide_eq_false (by omega)]
    repeat (first | refine jS ?_ | refine jD ?_ | refine jB ?_)
    rw [show decide ((k : Int) ≥ (((t.map iv).length : Nat) : Int)) = false from decide_eq_false (by rw [List.length_map]; omega)]
    repeat (first | refine jS ?_ | refine jD ?_ | refine jB ?_)
    rcases hs with ⟨e2, hi, es⟩ | ⟨e2, e3, hi, es⟩
    ·rw [show (ev.kind == 2) = true from by rw [e2]; rfl]
     repeat (first | refine jS ?_ | refine jD ?_ | refine jB ?_)
     rw [show decide ((σ q).inside ≥ 0) = false from decide_eq_false (by omega)]
     have hwr : IntKind.i64.wrap (at' (σ q).ins (k : Int) + 1) = g0 (σ q).ins k + 1 := wrap_id (show -9223372036854775808 ≤ g0 (σ q).ins k + 1 by omega) (show g0 (σ q).ins k + 1 ≤ 9223372036854775807 by omega)
     repeat (first | refine jS ?_ | refine jD ?_ | refine jB ?_)
     refine jo rfl rfl (index_own (xs := (σ q).ins.map iv) (n := (k : Int)) rfl rfl rfl rfl rfl rfl (Int.natCast_nonneg k) (by rw [List.length_map]; omega)) rfl rfl ?_
     refine jo rfl rfl (load_own (v := iv (at' (σ q).ins (k : Int))) rfl rfl (map_at (by omega)) rfl rfl rfl) rfl rfl ?_
     repeat (first | refine jS ?_ | refine jD ?_ | refine jB ?_)
     rw [hwr]
     refine jo rfl rfl (index_own (xs := (σ q).ins.map iv) (n := (k : Int)) rfl rfl rfl rfl rfl rfl (Int.natCast_nonneg k) (by rw [List.length_map]; omega)) rfl rfl ?_
     refine jo rfl rfl (store_enc (enc := iv) (l := (σ q).ins) (l' := (σ q).ins.set k (g0 (σ q).ins k + 1)) rfl rfl rfl (map_at (by omega)) rfl rfl rfl rfl rfl (Nat.le_of_ble_eq_true rfl) (.inr ⟨rfl, rfl⟩) (put_at (enc := iv) rfl) rfl) rfl rfl ?_
     repeat (first | refine jS ?_ | refine jD ?_ | refine jB ?_)
     refine jnext (q + 1) hq2 (by omega) rfl rfl rfl ?_ ?_
     ·rw [hidx, es] <;> rfl
     ·rw [es] <;> rfl
    ·rw [show (ev.kind == 2) = false from beq_eq_false_iff_ne.2 e2]
     repeat (first | refine jS ?_ | refine jD ?_ | refine jB ?_)
     rw [show (ev.kind == 3) = true from by rw [e3]; rfl]
     repeat (first | refine jS ?_ | refine jD ?_ | refine jB ?_)
     rw [show ((σ q).inside != (k : Int)) = false from by rw [hi]; simp]
     have hwr : IntKind.i64.wrap (at' (σ q).outs (k : Int) + 1) = g0 (σ q).outs k + 1 := wrap_id (show -9223372036854775808 ≤ g0 (σ q).outs k + 1 by omega) (show g0 (σ q).outs k + 1 ≤ 9223372036854775807 by omega)
     repeat (first | refine jS ?_ | refine jD ?_ | refine jB ?_)
     refine jo rfl rfl (index_own (xs := (σ q).outs.map iv) (n := (k : Int)) rfl rfl rfl rfl rfl rfl (Int.natCast_nonneg k) (by rw [List.length_map]; omega)) rfl rfl ?_
     refine jo rfl rfl (load_own (v := iv (at' (σ q).outs (k : Int))) rfl rfl (map_at (by omega)) rfl rfl rfl) rfl rfl ?_
     repeat (first | refine jS ?_ | refine jD ?_ | refine jB ?_)
     rw [hwr]
     refine jo rfl rfl (index_own (xs := (σ q).outs.map iv) (n := (k : Int)) rfl rfl rfl rfl rfl rfl (Int.natCast_nonneg k) (by rw [List.length_map]; omega)) rfl rfl ?_
     refine jo rfl rfl (store_enc (enc := iv) (l := (σ q).outs) (l' := (σ q).outs.set k (g0 (σ q).outs k + 1)) rfl rfl rfl (map_at (by omega)) rfl rfl rfl rfl rfl (Nat.le_of_ble_eq_true rfl) (.inr ⟨rfl, rfl⟩) (put_at (enc := iv) rfl) rfl) rfl rfl ?_
     repeat (first | refine jS ?_ | refine jD ?_ | refine jB ?_)
     refine jnext (q + 1) hq2 (by omega) rfl rfl rfl ?_ ?_
     ·rw [hidx, es] <;> rfl
     ·rw [es] <;> rfl
   ·have h := of_decide_eq_false h
    rw [List.length_map] at h
    have : q = x.evs.length := by omega
    subst this
    obtain ⟨l1, l2, _⟩ := hbd x.evs.length (Nat.le_refl _)
    have f1 : ∀ i, i < t.length → g0 (σ x.evs.length).ins i ≤ at' t (i : Int) := fun i hi => by
     rw [hend, ← hkT i hi]
     show g0 (tally t.length fun i => insN (ls i)) i ≤ _
     rw [tally_at _ hi]
     have := hin i hi
     omega
    have f2 : ∀ i, i < t.length → (at' x.thr (i : Int)).state = 1 → g0 (σ x.evs.length).outs i = at' t (i : Int) := fun i hi h1 => by
     rw [hend, ← hkT i hi]
     show g0 (tally t.length fun i => outN (ls i)) i = _
     rw [tally_at _ hi, (hst i hi).2 h1]
    clear hend hbeg hstep hbd
    generalize σ x.evs.length = S at *
    repeat (first | refine jS ?_ | refine jD ?_ | refine jB ?_)
    refine jloop 8 (fun i : Nat => i ≤ t.length) [9, 15, 16, 124, 125, 126] (fun i => [.ptr 5 0, .arr 7 1, .arr 6 1, .sl (t.map iv), .v (.int .i64 ((t.map iv).length : Int)), .v (.int .i64 (i : Int))])
     (fun i => [g.a, g.b, g.c, g.d, .box 33 [.sl (w.code.map encIns), .sl (w.tso.mem.words.map iv), .sl (w.tso.mem.tags.map iv), iv w.tso.depth, .sl (w.tso.bufs.map encBuf), .sl (w.thr.map encThr), .sl (w.evs.map encEvt)], .box 33 [.sl (x.code.map encIns), .sl (x.tso.mem.words.map iv), .sl (x.tso.mem.tags.map iv), iv x.tso.depth, .sl (x.tso.bufs.map encBuf), .sl (x.thr.map encThr), .sl (x.evs.map encEvt)], .arr 1 3 1 (S.outs.map iv), .arr 1 3 1 (S.ins.map iv)]) (fun i => t.length - i) 0 (by show β0.length ≤ 8; rw [hβ]; exact (by decide : 4 ≤ 8)) (Nat.zero_le _) rfl rfl (fun i hi => ?_)
    repeat (first | refine jS ?_ | refine jD ?_ | refine jB ?_)
    refine jc rfl rfl rfl (fun h => ?_) (fun h => ?_)
    ·have h := of_decide_eq_true h
     rw [List.length_map] at h
     have hi2 : i < t.length := by omega
     have hidx : IntKind.i64.wrap ((i : Int) + 1) = ((i + 1 : Nat) : Int) := idx_next hi2 (by omega)
     have g1 := f1 i hi2
     have g2 := f2 i hi2
     have hti : (i : Int) < x.thr.length := by omega
     repeat (first | refine jS ?_ | refine jD ?_ | refine jB ?_ | refine jo rfl rfl (index_at rfl rfl rfl rfl rfl rfl rfl rfl (Int.natCast_nonneg i) h) rfl rfl ?_)
     refine jo rfl rfl (index_own (xs := S.ins.map iv) (n := (i : Int)) rfl rfl rfl rfl rfl rfl (Int.natCast_nonneg i) (by rw [List.length_map]; omega)) rfl rfl ?_
     refine jo rfl rfl (load_own (v := iv (g0 S.ins i)) rfl rfl (map_at (by omega)) rfl rfl rfl) rfl rfl ?_
     generalize at' t (i : Int) = v at *
     repeat (first | refine jS ?_ | refine jD ?_ | refine jB ?_)
     rw [show decide (g0 S.ins i > v) = false from decide_eq_false (by omega)]
     repeat (first | refine jS ?_ | refine jD ?_ | refine jB ?_ | refine jo rfl rfl (index_at rfl rfl rfl rfl rfl rfl rfl rfl (Int.natCast_nonneg i) hti) rfl rfl ?_)
     generalize at' x.thr (i : Int) = T at *
     by_cases hs : T.state = 1
     ·rw [show (T.state == 1) = true from by rw [hs]; rfl]
      repeat (first | refine jS ?_ | refine jD ?_ | refine jB ?_)
      refine jo rfl rfl (index_own (xs := S.outs.map iv) (n := (i : Int)) rfl rfl rfl rfl rfl rfl (Int.natCast_nonneg i) (by rw [List.length_map]; omega)) rfl rfl ?_
      refine jo rfl rfl (load_own (v := iv (g0 S.outs i)) rfl rfl (map_at (by omega)) rfl rfl rfl) rfl rfl ?_
      repeat (first | refine jS ?_ | refine jD ?_ | refine jB ?_)
      rw [show (g0 S.outs i != v) = false from by rw [g2 hs]; simp]
      repeat (first | refine jS ?_ | refine jD ?_ | refine jB ?_)
      refine jnext (i + 1) hi2 (by omega) rfl rfl rfl ?_ rfl
      rw [hidx] <;> rfl
     ·rw [show (T.state == 1) = false from beq_eq_false_iff_ne.2 hs]
      repeat (first | refine jS ?_ | refine jD ?_ | refine jB ?_)
      refine jnext (i + 1) hi2 (by omega) rfl rfl rfl ?_ rfl
      rw [hidx] <;> rfl
    ·repeat (first | refine jS ?_ | refine jD ?_ | refine jB ?_)
     exact jret [] true rfl rfl rfl ⟨rfl, rfl⟩
end Go.AL
end
section
set_option maxRecDepth 100000
namespace Go.AL
open Go Go.Proofs
attribute [local irreducible] J
theorem ends_ok {t : List Int} (hT : turnsOk t = true) (h4 : t.length ≤ 4) (h3 : ∀ i, kT t i ≤ 3) {w : Wd} (hw : WdR w) (hI : SpY t w) : ∃ (x : Wd) (n : Nat), roundsW w 10000 = (x, n) ∧ n < 10000 ∧ idleW x = true ∧ WdR x ∧ x.thr.length = t.length ∧ (∀ i, i < t.length → (at' x.thr (i : Int)).state = 1) ∧ ∃ c : Nat, x.tso.mem.words = [0, 0, (c : Int)] ∧ (c : Int) = (tally t.length fun i => kT t i).sum := by
 obtain ⟨ls, c, lk, ind, h⟩ := hI
 obtain ⟨e1, e2⟩ := rounds_end hT 2000 hw ⟨ls, c, lk, ind, h, pot_few h h4 h3⟩
 have e3 := rounds_more 2000 8000 e2 e1
 have e3 : roundsW w 10000 = roundsW w 2000 := e3
 obtain ⟨k1, k2⟩ := rounds_keep (sp_keeps hT) 2000 hw ⟨ls, c, lk, ind, h⟩
 refine ⟨(roundsW w 2000).1, (roundsW w 2000).2, e3, by omega, e2, k1, ?_⟩
 generalize (roundsW w 2000).1 = x at *
 obtain ⟨ls', c', lk', ind', h'⟩ := k2
 have hd := sp_idle k1 h' e2
 refine ⟨h'.len, fun i hi => ?_, c', ?_, ?_⟩
 ·have := (hd i hi).2
  rw [thrAt_at (by rw [h'.len]; exact hi)] at this
  exact this
 ·rcases h'.own with ⟨a, _⟩ | ⟨_, q, a, b, _⟩
  ·rw [h'.mem, a]
  ·rw [(hd q a).1] at b; cases b
 ·obtain ⟨_, _, _, s4⟩ := scE_sum _ _ _ h'.sc
  have s4 : (tally t.length fun i => outN (ls' i)).sum = cntE 3 x.evs := s4
  have e5 : (tally t.length fun i => outN (ls' i)) = tally t.length fun i => kT t i := tally_same fun q hq => by rw [(hd q hq).1]; rfl
  rw [e5] at s4
  rcases h'.own with ⟨_, _, a, _⟩ | ⟨_, q, a, b, _⟩
  ·rw [s4, a]
  ·rw [(hd q a).1] at b; cases b
theorem tally_take (n : Nat) (f : Nat → Nat) : ∀ q, q ≤ n → ((tally n f).take (q + 1)).sum = ((tally n f).take q).sum + if q < n then (f q : Int) else 0 := fun q hq => by
 by_cases h : q < n
 ·have hl : q < (tally n f).length := by unfold tally; simpa using h
  rw [List.take_succ_eq_append_getElem hl, List.sum_append, if_pos h]
  have : (tally n f)[q] = (f q : Int) := by
   have := tally_at f h
   rw [g0_q, List.getElem?_eq_getElem hl] at this
   exact this
  rw [this]; simp
 ·have hl : (tally n f).length = n := by unfold tally; simp
  rw [if_neg h, List.take_of_length_le (by omega), List.take_of_length_le (by omega)]; simp
theorem spe_law (g : Gl) (ts : List Int) (d : Int) (acts : List Act) : ACalls Tryz.prog 7 [ivs ts, iv d, .sl (acts.map encAct)] (gls g) (one (bv true) (gls g)) := by
 have h0 := some_ok ts d
 have hfew := some_few ts
 obtain ⟨hT, hl4⟩ := someT_ok ts
 obtain ⟨d0, d8⟩ := nine_bd d
 generalize someT ts = t at *
 generalize nine d = e at *
 have hd : inn e 0 8 = true := inn_iff.2 ⟨d0, d8⟩
 obtain ⟨e2, e3⟩ := spW_good hT hd
 have h2 := spworld_ok g t e (by omega)
 rw [e2] at h2
 have hl3 : (acts.take 300).length ≤ 300 := by rw [List.length_take]; omega
 have m1 : (if (300 : Int) < (((acts.map encAct).length : Nat) : Int) then (300 : Int) else (((acts.map encAct).length : Nat) : Int)) = ((min acts.length 300 : Nat) : Int) := by rw [List.length_map]; split <;> omega
 generalize hL : acts.take 300 = l at *
 obtain ⟨hwr, hY⟩ := run_spy hT hd l
 have hev : (spO t e).evs = [] := rfl
 generalize spO t e = w at *
 have h3 := run_ok w l e3 (by rw [hev]; decide) (by omega)
 have hevs : (runW w l).1.evs.length ≤ 300 := by have := (runW_right e3 l 0).2.1; rw [hev] at this; exact Nat.le_trans this (by simpa using hl3)
 have h6 := spalive_ok g
 generalize runW w l = r at *
 obtain ⟨x, n⟩ := r
 simp only at h3 hY hwr hevs
 obtain ⟨y, k, e5, hk, hi, hwy, hty, hst, c, hmem, hsum⟩ := ends_ok hT hl4 hfew hwr hY
 have h4 := rounds_ok x 10000 hwr (by omega) (by decide)
 have h5 := sIdle_ok y hwy
 rw [e5] at h4
 rw [hi] at h5
 have hkT : ∀ i, i < t.length → ((kT t i : Nat) : Int) = at' t (i : Int) := fun i hi => by
  obtain ⟨hn, _, _⟩ := turnsOk_iff.1 hT
  have := hn _ (List.getElem_mem hi)
  rw [kT_at hi, at_nat t i hi]; omega
 have hts := tally_take t.length (fun i => kT t i)
 have htl : (tally t.length fun i => kT t i).length = t.length := by unfold tally; simp
 have hbd : ∀ q, q ≤ t.length → 0 ≤ ((tally t.length fun i => kT t i).take q).sum ∧ ((tally t.length fun i => kT t i).take q).sum ≤ 3 * q := fun q => by
  induction q with
  | zero => intro _; exact ⟨Int.le_refl _, Int.le_refl _⟩
  | succ q ih =>
   intro hq
   have := ih (by omega)
   have h3 := hfew q
   rw [hts q (by omega), if_pos (by omega)]
   omega
 generalize (tally t.length fun i => kT t i) = Sg at *
 clear e2 e3 hev hwr hwy hi hY e5 hd
 simp only at h4
 unfold gls at *
 unfold encWd wCells ivs at *
 rw [hmem] at h4 h5
 have hkk : decide (((k : Nat) : Int) ≥ 10000) = false := decide_eq_false (by omega)
 refine jcalls Tryz.func7 rfl (by kernel_rfl) Tryz.ntmps7 rfl rfl (fun w0 β0 ext hβ => ?_)
 repeat (first | refine jS ?_ | refine jD ?_ | refine jB ?_ | refine jV h0 ?_)
 refine jb [0,1,2,3] h2 rfl rfl rfl ⟨rfl, rfl, rfl, rfl, rfl, rfl⟩ rfl rfl rfl rfl ?_
 repeat (first | refine jS ?_ | refine jD ?_ | refine jB ?_)
 refine jo rfl rfl (cut_take 300 rfl rfl rfl m1 rfl rfl rfl (fun _ => ⟨rfl, rfl⟩)) rfl rfl ?_
 rw [hL]
 repeat (first | refine jS ?_ | refine jD ?_ | refine jB ?_ | refine jV h3 ?_)
 repeat (first | refine jS ?_ | refine jD ?_ | refine jB ?_ | refine jV h4 ?_ | refine jV h5 ?_)
 rw [hkk]
 repeat (first | refine jS ?_ | refine jD ?_ | refine jB ?_)
 refine jb [0,1,2,3] h6 rfl rfl rfl ⟨rfl, rfl, rfl, rfl, rfl, rfl⟩ rfl rfl rfl rfl ?_
 repeat (first | refine jS ?_ | refine jD ?_ | refine jB ?_)
 refine jloop 6 (fun q : Nat => q ≤ y.thr.length) [0, 9, 16, 86, 87, 88] (fun q => [.sl (t.map iv), .ptr 5 0, .v (.int .i64 ((Sg.take q).sum)), .sl (y.thr.map encThr), .v (.int .i64 ((y.thr.map encThr).length : Int)), .v (.int .i64 (q : Int))])
  (fun q => _) (fun q => y.thr.length - q) 0 (by show β0.length ≤ 6; rw [hβ]; exact (by decide : 4 ≤ 6)) (Nat.zero_le _) rfl rfl (fun q hq => ?_)
 repeat (first | refine jS ?_ | refine jD ?_ | refine jB ?_)
 refine jc rfl rfl rfl (fun h => ?_) (fun h => ?_)
 ·have h := of_decide_eq_true h
  rw [List.length_map] at h
  have hq2 : q < y.thr.length := by omega
  have hidx : IntKind.i64.wrap ((q : Int) + 1) = ((q + 1 : Nat) : Int) := idx_next hq2 (by omega)
  have hs := hst q (by omega)
  have hqt : (q : Int) < t.length := by omega
  have hge : decide ((q : Int) ≥ (((t.map iv).length : Nat) : Int)) = false := decide_eq_false (by rw [List.length_map]; omega)
  have hnx := hts q (by omega)
  rw [if_pos (by omega), hkT q (by omega)] at hnx
  have hb1 := hbd q (by omega)
  have hb2 := hbd (q + 1) (by omega)
  have hwr : IntKind.i64.wrap ((Sg.take q).sum + at' t (q : Int)) = (Sg.take (q + 1)).sum := by rw [hnx, wrap_id (by omega) (by omega)]
  repeat (first | refine jS ?_ | refine jD ?_ | refine jB ?_ | refine jo rfl rfl (index_at rfl rfl rfl rfl rfl rfl rfl rfl (Int.natCast_nonneg q) h) rfl rfl ?_)
  generalize at' y.thr (q : Int) = T at *
  rw [show (T.state != 1) = false from by rw [hs]; rfl]
  repeat (first | refine jS ?_ | refine jD ?_ | refine jB ?_)
  rw [hge]
  repeat (first | refine jS ?_ | refine jD ?_ | refine jB ?_ | refine jo rfl rfl (index_at rfl rfl rfl rfl rfl rfl rfl rfl (Int.natCast_nonneg q) hqt) rfl rfl ?_)
  rw [hwr]
  repeat (first | refine jS ?_ | refine jD ?_ | refine jB ?_)
  refine jnext (q + 1) hq2 (by omega) rfl rfl rfl ?_ rfl
  rw [hidx]
 ·have h := of_decide_eq_false h
  rw [List.length_map] at h
  have : q = y.thr.length := by omega
  subst this
  have ht1 : ((((y.thr.map encThr).length : Nat) : Int) == ((t.map iv).length : Nat)) = true := by rw [List.length_map, List.length_map, hty]; simp
  have i1 : (0 : Int) ≤ 1 := by decide
  have j1 : (1 : Int) < ([0, 0, (c : Int)] : List Int).length := (by decide : (1 : Int) < 3)
  have i2 : (0 : Int) ≤ 2 := by decide
  have j2 : (2 : Int) < ([0, 0, (c : Int)] : List Int).length := (by decide : (2 : Int) < 3)
  have hc : (((c : Nat) : Int) == (Sg.take y.thr.length).sum) = true := by
   rw [List.take_of_length_le (by omega), ← hsum]; simp
  repeat (first | refine jS ?_ | refine jD ?_ | refine jB ?_)
  rw [ht1]
  repeat (first | refine jS ?_ | refine jD ?_ | refine jB ?_ | refine jo rfl rfl (index_at rfl rfl rfl rfl rfl rfl rfl rfl i1 j1) rfl rfl ?_ | refine jo rfl rfl (index_at rfl rfl rfl rfl rfl rfl rfl rfl i2 j2) rfl rfl ?_)
  rw [show at' ([0, 0, (c : Int)] : List Int) 1 = 0 from rfl]
  repeat (first | refine jS ?_ | refine jD ?_ | refine jB ?_ | refine jo rfl rfl (index_at rfl rfl rfl rfl rfl rfl rfl rfl i1 j1) rfl rfl ?_ | refine jo rfl rfl (index_at rfl rfl rfl rfl rfl rfl rfl rfl i2 j2) rfl rfl ?_)
  rw [show at' ([0, 0, (c : Int)] : List Int) 2 = c from rfl, hc]
  repeat (first | refine jS ?_ | refine jD ?_ | refine jB ?_)
  exact jR
end Go.AL
end
section
set_option maxRecDepth 100000
namespace Go.Proofs.YteefnlbapebamaaGreatDoor
open Go Go.AL Go.ChangeShapes Go.WideShapes Go.ChangeAt Go.RowKit
theorem own : ownKnob Tryz.prog.godebug = none := by kernel_rfl
theorem kids : Kids Tryz.prog (· < Tryz.prog.types.size) := kids_rows (by kernel_rfl) (by kernel_rfl)
theorem full : ∀ t e, t < Tryz.prog.types.size → Tryz.prog.underlying t = some (.slice e) → 0 < Tryz.prog.cellsOf e := slices_full_of _ (by kernel_rfl)
theorem g_pow : Tryz.prog.globalNamed "internal/strconv.uint64pow10" = some 1 := by kernel_rfl
theorem g_syn : Tryz.prog.globalNamed "strconv.ErrSyntax" = some 5 := by kernel_rfl
theorem g_ran : Tryz.prog.globalNamed "strconv.ErrRange" = some 6 := by kernel_rfl
def glx (g : Gl) : List (Nat × Obj) := [(1, .cells powV g.t1 g.f1), (5, .cells #[.iface g.e2 g.p2] g.t2 g.f2), (6, .cells #[.iface g.e3 g.p3] g.t3 g.f3), (4, .cells #[.int .i64 g.m] g.t0 g.f0)]
theorem var_heap {W : World} {n : String} {g : Nat} {cs : Array Value} (hg : Tryz.prog.globalNamed n = some g) (hv : W.var? Tryz.prog n = some cs) : ∃ t f, W.heap[g]? = some (.cells cs t f) := by
 unfold World.var? at hv
 rw [hg] at hv
 simp only [Option.bind_some] at hv
 split at hv
 ·rename_i c t f h
  injection hv with hv
  exact ⟨t, f, by rw [h, hv]⟩
 ·cases hv
theorem iface_head {W : World} {n nm : String} {x : DataW Unit} {r : List (String × DataW Unit)} {g : Nat} {t : TypeId} {ms : Array (String × TypeId)} (h : laidMet Tryz.prog ((n, .iface nm x) :: r) W)
  (hg : Tryz.prog.globalNamed n = some g) (ht : (Tryz.prog.globals[g]?).map (·.type) = some t) (hu : Tryz.prog.underlying t = some (.interface ms)) : ∃ e p, W.var? Tryz.prog n = some #[.iface e p] := by
 obtain ⟨ps, ⟨g0, t0, cs0, f0, p0, q0, hg0, ht0, hv0, hd0, _, _⟩, _, _⟩ := h
 obtain rfl := Option.some.inj (hg.symm.trans hg0)
 obtain rfl := Option.some.inj (ht.symm.trans ht0)
 obtain ⟨_, u, v, e, _, _⟩ := iface_of_trod hu hd0
 refine ⟨u, v, ?_⟩
 rw [hv0]
 congr 1
 apply Array.ext'
 simpa using e
def laidL : List (String × DataW Unit) := [("math/bits.deBruijn32tab", Rows.laid_math_bits_deBruijn32tab), ("math/bits.deBruijn64tab", Rows.laid_math_bits_deBruijn64tab), ("internal/strconv.uint64pow10", Rows.laid_internal_strconv_uint64pow10), ("unicode/utf8.acceptRanges", Rows.laid_unicode_utf8_acceptRanges), ("errors.errorType", Rows.laid_errors_errorType), ("strconv.ErrRange", Rows.laid_strconv_ErrRange), ("strconv.ErrSyntax", Rows.laid_strconv_ErrSyntax), ("unicode/utf8.first", Rows.laid_unicode_utf8_first)]
def plainL : List (String × DataW Unit) := [("math/bits.deBruijn32tab", Rows.laid_math_bits_deBruijn32tab), ("math/bits.deBruijn64tab", Rows.laid_math_bits_deBruijn64tab), ("internal/strconv.uint64pow10", Rows.laid_internal_strconv_uint64pow10), ("unicode/utf8.acceptRanges", Rows.laid_unicode_utf8_acceptRanges), ("strconv.ErrRange", Rows.laid_strconv_ErrRange), ("strconv.ErrSyntax", Rows.laid_strconv_ErrSyntax), ("unicode/utf8.first", Rows.laid_unicode_utf8_first)]
theorem plain_eq : (laidL.filter fun x => x.2.handleName?.isNone) = plainL := by kernel_rfl
theorem laid_plain {W : World} (h : laidMetH Tryz.prog laidL W) : laidMet Tryz.prog plainL W := by
 have h1 := (laidMetH_iff.1 h).1
 rwa [plain_eq] at h1
noncomputable def errW (os : Os) : World :=
 let w0 := World.holding Tryz.prog os ⟨#[], #[], []⟩
 { w0 with heap := w0.heap.modify 0 fun
   | .cells _ t frozen => .cells #[.iface 261 (.agg #[typeHandle Tryz.prog 88])] t frozen
   | o => o }
noncomputable def laidW (os : Os) : World := (errW os).layVars Tryz.prog plainL
theorem laidW_os (os : Os) : (laidW os).os = os := World.layVars_os _ _ _
theorem laidW_met (os : Os) (args : Array Value) : laidMetH Tryz.prog laidL ((laidW os).forCall (fun _ _ => 0) ⟨#[], args, []⟩).memory := by
 refine laidMetH_of_parts ?_ (by kernel_rfl)
 rw [plain_eq]
 have e1 : (plainL.filter fun x => (plainL.map (·.1)).contains x.1) = plainL := List.filter_eq_self.2 fun x hx => List.contains_iff_mem.2 (List.mem_map.2 ⟨x, hx, rfl⟩)
 have e2 : (plainL.filter fun x => !(plainL.map (·.1)).contains x.1) = [] := List.filter_eq_nil_iff.2 fun x hx => by rw [List.contains_iff_mem.2 (List.mem_map.2 ⟨x, hx, rfl⟩)]; simp
 have h : laidMet Tryz.prog plainL (laidW os) := laidMet_layVars (w0 := errW os) (plainL.map (·.1)) [] (by rw [e1]; rfl) (by rw [e1]; kernel_rfl) (by rw [e1]; kernel_rfl) (by rw [e2]; exact LaidIn.none)
 exact h.of_heap (by simp [World.memory, World.forCall, Input.heap])
theorem gl_exists {W : World} (hL : laidMetH Tryz.prog laidL W) (hS : W.ShapedOpen Tryz.prog) : ∃ g : Gl, ∀ p ∈ glx g, W.heap[p.1]? = some p.2 ∧ ∀ d, p.2 ≠ .deferred d := by
 replace hL := laid_plain hL
 have h3 := hL.tail.tail
 have h5 := hL.tail.tail.tail.tail
 have h6 := hL.tail.tail.tail.tail.tail
 obtain ⟨t1, f1, a1⟩ := var_heap g_pow (Lib.tabIs_of_head (k := .u64) (zs := Lib.pow10Tab) (n := 20) (t := 295) (e := 245) g_pow (by kernel_rfl) (by kernel_rfl) (by kernel_rfl) (by kernel_rfl) (by kernel_rfl) h3)
 obtain ⟨e3, p3, b3⟩ := iface_head (t := 88) h5 g_ran (by kernel_rfl) Tryz.underlying88
 obtain ⟨e2, p2, b2⟩ := iface_head (t := 88) h6 g_syn (by kernel_rfl) Tryz.underlying88
 obtain ⟨t3, f3, a3⟩ := var_heap g_ran b3
 obtain ⟨t2, f2, a2⟩ := var_heap g_syn b2
 obtain ⟨m, a0⟩ := shaped_int (g := 4) (t := 3) (zero := #[.int .i64 0]) (k := .i64) hS (of_decide_eq_true (by kernel_rfl)) (by kernel_rfl) rfl (by kernel_rfl) (by kernel_rfl) (by kernel_rfl)
 refine ⟨⟨t1, t2, t3, f1, f2, f3, e2, e3, p2, p3, 3, (0, 0), m⟩, fun p hp => ?_⟩
 simp only [glx, List.mem_cons, List.mem_nil_iff, or_false] at hp
 rcases hp with rfl | rfl | rfl | rfl
 ·exact ⟨a1, fun d h => by cases h⟩
 ·exact ⟨a2, fun d h => by cases h⟩
 ·exact ⟨a3, fun d h => by cases h⟩
 ·exact ⟨a0, fun d h => by cases h⟩
end Go.Proofs.YteefnlbapebamaaGreatDoor
end
section
set_option maxRecDepth 100000
namespace Go.Proofs.YteefnlbapebamaaGreatDoor
open Go Go.AL Go.ChangeShapes Go.WideShapes Go.ChangeAt Go.RowKit
section
variable {H : Type} {enc : TypeId × Value → H} {W : World} {v : Value} {d : DataW H} {p : List MemPlace}
theorem open_list {α : Type} {encX : α → AVal} {t e : TypeId} {r r' : TyRow} (f : List Int → α) (ht : tfind tyTab.tab t = some r') (hd' : r'.d = .slice e) (he : tfind tyTab.tab e = some r) (hi : allInt tyTab.tab Tryz.prog.stoodInHeld 100 e = true) (hz : r.size ≠ 0) (h1 : aggB r.d = false → r.size = 1)
  (hf : ∀ ns : List Int, ns.length = r.size → encX (f ns) = rowA (aggB r.d) ns) (hv : ∃ a l c, v = .slice a l c) (h : DataW.Trod enc Tryz.prog W 0 (fun _ => true) true t v d p) : ∃ m : List α, m.length ≤ maxLen ∧ Rel (out W) (.sl (m.map encX)) v := by
 obtain ⟨a, l, c, rfl⟩ := hv
 obtain ⟨n, hn⟩ := h
 obtain ⟨nss, g1, g2, g3⟩ := open_rows (T := tyTab) (st := Tryz.prog.stoodInHeld) (n := 100) ht hd' he hi hz h1 hn
 refine ⟨nss.map f, by simpa using g2, ?_⟩
 have : (nss.map f).map encX = nss.map (rowA (aggB r.d)) := by
  rw [List.map_map]
  exact List.map_congr_left fun ns hns => hf ns (g1 ns hns)
 rw [this]
 exact g3
theorem one_ints : ∀ {ns : List Int}, ns.length = 1 → ∃ a, ns = [a]
 | [a], _ => ⟨a, rfl⟩
theorem two_ints : ∀ {ns : List Int}, ns.length = 2 → ∃ a b, ns = [a, b]
 | [a, b], _ => ⟨a, b, rfl⟩
theorem open_acts (hv : ∃ a l c, v = .slice a l c) (h : DataW.Trod enc Tryz.prog W 0 (fun _ => true) true 51 v d p) : ∃ m : List AL.Act, m.length ≤ maxLen ∧ Rel (out W) (.sl (m.map encAct)) v :=
 open_list (fun ns => ⟨ns.headD 0, ns.tail.headD 0⟩) rfl rfl rfl (by kernel_rfl) (by decide) (fun h => by cases h) (fun ns hn => by obtain ⟨a, b, rfl⟩ := two_ints hn; rfl) hv h
theorem open_ints (hv : ∃ a l c, v = .slice a l c) (h : DataW.Trod enc Tryz.prog W 0 (fun _ => true) true 23 v d p) : ∃ m : List Int, m.length ≤ maxLen ∧ Rel (out W) (ivs m) v :=
 open_list (fun ns => ns.headD 0) rfl rfl rfl (by kernel_rfl) (by decide) (fun _ => rfl) (fun ns hn => by obtain ⟨a, rfl⟩ := one_ints hn; rfl) hv h
theorem open_int (hv : ∃ n, v = .int .i64 n) (h : DataW.Trod enc Tryz.prog W 0 (fun _ => true) true 3 v d p) : ∃ n : Int, True ∧ Rel (out W) (.v (.int .i64 n)) v := by
 obtain ⟨n, rfl⟩ := hv
 exact ⟨n, trivial, rfl⟩
end
end Go.Proofs.YteefnlbapebamaaGreatDoor
end
