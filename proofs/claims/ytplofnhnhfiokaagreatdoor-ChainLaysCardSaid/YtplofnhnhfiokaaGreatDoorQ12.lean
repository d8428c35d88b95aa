/-
  Part 12 of the proof texts: the program logic over the model, then the contracts of the functions that the laws reach. No conditions.
-/
import Derived.Test.YtplofnhnhfiokaaGreatDoorQ11
import Derived.Test.YtplofnhnhfiokaaGreatDoorRows
import Derived.JoinedOf
import Derived.JoinedAt
import Derived.RowKit3
import Derived.LaidMore
import Derived.Lib.LaidTab
import Derived.Stop.LaidErr
import Derived.Lay
import Derived.LaidSub
import Derived.LaidHandle
set_option linter.unusedVariables false
set_option linter.unusedSimpArgs false
set_option maxHeartbeats 2000000
section
set_option maxRecDepth 100000
namespace Go.AL
open Go Go.Proofs
attribute [local irreducible] J
def chO (l : List Pr) (ks : List Int) (d : Int) : Wd := newOk (chCode ks) (rst (chTx ks) [[116, 48]]) (layM l) d
theorem prs12 {l : List Pr} (hP : prsOk l = true) : l.length ≤ 12 := by
 unfold prsOk at hP
 rw [Bool.and_eq_true] at hP
 exact of_decide_eq_true hP.2
theorem ch_p0 {ks : List Int} (hK : keysOk ks = true) (hk : ks.length ≤ 20) : rparse (chTx ks) = (chCode ks, 0, 0) := ch_parse ks (keysOk_bd hK) hk
theorem wch0_good {l : List Pr} {ks : List Int} {d : Int} (hP : prsOk l = true) (hK : keysOk ks = true) (h16 : ks.length ≤ 16) (hd : inn d 0 8 = true) : wch0 l ks d = (chO l ks d, 0) ∧ WdR (chO l ks d) := by
 have hpr := ch_p0 hK (by omega)
 have hp0 : (rparse (chTx ks)).2.2 = 0 := by rw [hpr]
 have h1 := newW_good hp0 [[116, 48]] (layM l) d (layM_right (prs12 hP)) (by decide) hd
 have h2 := newOk_r hp0 [[116, 48]] (layM l) d (layM_right (prs12 hP)) (by decide) hd
 rw [hpr] at h1 h2
 exact ⟨by unfold wch0; rw [hP, hK, decide_eq_true h16]; exact h1, h2⟩
theorem wch0_depth {l : List Pr} {ks : List Int} {d : Int} (hP : prsOk l = true) (hK : keysOk ks = true) (h16 : ks.length ≤ 16) (hd : inn d 0 8 = false) : wch0 l ks d = (wd0, 2) := by
 have hpr := ch_p0 hK (by omega)
 have hp0 : (rparse (chTx ks)).2.2 = 0 := by rw [hpr]
 have h1 := newW_size hp0 (rst (chTx ks) [[116, 48]]) (layM l) d (layM_right (prs12 hP)) (by rw [hd, Bool.and_false])
 rw [hpr] at h1
 unfold wch0; rw [hP, hK, decide_eq_true h16]; exact h1
theorem rchworld_ok (l : List Pr) (ks : List Int) (d : Int) (hP : prsOk l = true) (hK : keysOk ks = true) (hk : ks.length ≤ 20) : ACalls Tryz.prog 24 [encPs l, ivs ks, iv d] [] (one (encWd (chO l ks d)) []) := by
 have hp12 := prs12 hP
 obtain ⟨ly1, ly2⟩ := layM_eq hP
 have h3 := rmnew_ok (2 + 3 * l.length) (by omega)
 have h4 := rlay_ok ⟨List.replicate (2 + 3 * l.length) 0, List.replicate (2 + 3 * l.length) 0⟩ 1 2 l ly2 hP
 rw [ly1] at h4
 have hpr := ch_p0 hK hk
 have hp0 : (rparse (chTx ks)).2.2 = 0 := by rw [hpr]
 have hwh := ch_where ks (keysOk_bd hK) hk
 obtain ⟨z1, z2⟩ := rst_eq hp0 [[116, 48]]
 have hTl := ch_len ks (keysOk_bd hK) hk
 rw [show ltx (chLn ks) = chTx ks from rfl] at hwh hTl
 have h5 := rworld_ok (chTx ks) [[116, 48]] (layM l) d (by omega) (by decide) (by intro x hx; simp at hx; subst hx; decide) (z2.1 (by intro x hx; simp at hx; subst hx; rw [hwh]))
 rw [hpr] at h5
 have hO : newOk (chCode ks) (rst (chTx ks) [[116, 48]]) (layM l) d = chO l ks d := rfl
 simp only at h5
 rw [hO] at h5
 have hn : IntKind.i64.wrap (2 + IntKind.i64.wrap (3 * (((l.map encP).length : Nat) : Int))) = ((2 + 3 * l.length : Nat) : Int) := by
  rw [List.length_map, wrap_id (n := 3 * (l.length : Int)) (by omega) (by omega), wrap_id (by omega) (by omega)]; omega
 have hS0 : sv chT0 = sv (chS ks 0) := by congr 1
 have hall := chS_all ks
 have hSl := fun k => chS_len ks k (fun x hx => keysOk_bd hK x (List.take_subset _ _ hx)) (by omega)
 have hdg := fun k (h : bd k) => digits_ok k h
 generalize chO l ks d = w at *
 generalize chTx ks = T at *
 generalize layM l = M at *
 clear hpr hp0 hwh z1 z2 ly1 ly2 hO
 unfold encWd wCells encMem mCells ivs at h5
 unfold encMem mCells ivs at h3 h4
 have h5 := h5.argw (args' := [sv T, .slf [sv [116, 48]], .agg [.sl (M.words.map iv), .sl (M.tags.map iv)], iv d]) (fun c us h => relL_cons (fun u h => h) (relL_cons (fun u h => sl_weak h) (fun us h => h)) us h)
 unfold encWd wCells encPs ivs at *
 refine jcalls Tryz.func24 rfl (by kernel_rfl) Tryz.ntmps24 rfl rfl (fun w0 β0 ext hβ => ?_)
 repeat (first | refine jS ?_ | refine jD ?_ | refine jB ?_)
 refine jloopI (fun k : Nat => k ≤ ks.length) [0, 2, 6, 7, 13, 14, 15] (fun k => [.sl (l.map encP), iv d, .ptr 0 0, sv (chS ks k), .sl (ks.map iv), .v (.int .i64 ((ks.map iv).length : Int)), .v (.int .i64 (k : Int))])
  (fun k => [.box 33 [.slf [], .slf [], .slf [], iv 0, .slf [], .slf [], .slf []]]) (fun k => ks.length - k) 0 (Nat.zero_le _) (by rw [← hS0]; rfl) rfl (fun k hk => ?_)
 repeat (first | refine jS ?_ | refine jD ?_ | refine jB ?_)
 refine jc rfl rfl rfl (fun h => ?_) (fun h => ?_)
 ·have h := of_decide_eq_true h
  rw [List.length_map] at h
  have hk2 : k < ks.length := by omega
  have hidx : IntKind.i64.wrap ((k : Int) + 1) = ((k + 1 : Nat) : Int) := idx_next hk2 (by omega)
  have hbd := keysOk_bd hK _ (at_mem hk2)
  have hsu := chS_succ ks hk2
  have hB := hSl k
  have hdg := hdg _ hbd
  have hil := itoa_len hbd
  have hsl := setS_len hbd
  have l0 : sE.length = 16 := by decide
  have l3 : sC.length = 17 := by decide
  have l4 : sD.length = 17 := by decide
  repeat (first | refine jS ?_ | refine jD ?_ | refine jB ?_ | refine jo rfl rfl (index_at rfl rfl rfl rfl rfl rfl rfl rfl (Int.natCast_nonneg k) h) rfl rfl ?_ | refine jV hdg ?_)
  generalize at' ks (k : Int) = v at *
  refine jo rfl rfl (cat_str (a := sE) (b := Lib.itoa v) rfl rfl (by omega)) rfl rfl ?_
  repeat (first | refine jS ?_ | refine jD ?_ | refine jB ?_)
  refine jo rfl rfl (cat_str (a := sE ++ Lib.itoa v) (b := [10]) rfl rfl (by simp only [List.length_append, List.length_cons, List.length_nil]; omega)) rfl rfl ?_
  rw [show (sE ++ Lib.itoa v) ++ [10] = setS v from rfl]
  generalize setS v = SS at *
  generalize chS ks k = C at *
  repeat (first | refine jS ?_ | refine jD ?_ | refine jB ?_)
  refine jo rfl rfl (cat_str (a := C) (b := SS) rfl rfl (by omega)) rfl rfl ?_
  repeat (first | refine jS ?_ | refine jD ?_ | refine jB ?_)
  refine jo rfl rfl (cat_str (a := C ++ SS) (b := sC) rfl rfl (by simp only [List.length_append]; omega)) rfl rfl ?_
  repeat (first | refine jS ?_ | refine jD ?_ | refine jB ?_)
  refine jo rfl rfl (cat_str (a := (C ++ SS) ++ sC) (b := SS) rfl rfl (by simp only [List.length_append]; omega)) rfl rfl ?_
  repeat (first | refine jS ?_ | refine jD ?_ | refine jB ?_)
  refine jo rfl rfl (cat_str (a := ((C ++ SS) ++ sC) ++ SS) (b := sD) rfl rfl (by simp only [List.length_append]; omega)) rfl rfl ?_
  rw [show (((C ++ SS) ++ sC) ++ SS) ++ sD = chS ks (k + 1) by rw [hsu]; simp]
  repeat (first | refine jS ?_ | refine jD ?_ | refine jB ?_)
  refine jnextI (k + 1) hk2 ?_ rfl (by omega)
  show some _ = some _
  rw [hidx]
 ·have h := of_decide_eq_false h
  rw [List.length_map] at h
  have : k = ks.length := by omega
  subst this
  have hB := hSl ks.length
  generalize chS ks ks.length = C at *
  repeat (first | refine jS ?_ | refine jD ?_ | refine jB ?_)
  rw [hn]
  repeat (first | refine jS ?_ | refine jD ?_ | refine jB ?_ | refine jV h3 ?_ | refine jV h4 ?_)
  refine jo rfl rfl (cat_str (a := C) (b := sH) rfl rfl (Nat.le_trans (Nat.add_le_add hB (show sH.length ≤ 10 by decide)) (by decide))) rfl rfl ?_
  rw [hall]
  repeat (first | refine jS ?_ | refine jD ?_ | refine jB ?_ | refine jV h5 ?_)
  exact jR
theorem al_prs : prsOk [(5, 0), (7, 0)] = true := by decide +kernel
theorem al_runs : (roundsW (chO [(5, 0), (7, 0)] [7] 0) 100).1.evs.length = 2 ∧ g0 (at' (roundsW (chO [(5, 0), (7, 0)] [7] 0) 100).1.evs (0 : Int)).words 0 = 5 ∧ g0 (at' (roundsW (chO [(5, 0), (7, 0)] [7] 0) 100).1.evs (1 : Int)).words 0 = 4 := by decide +kernel
theorem chalive_ok (g : Gl) : ACalls Tryz.prog 18 [] (gls g) (one (bv true) (gls g)) := by
 obtain ⟨e1, e2⟩ := wch0_good (l := [(5, 0), (7, 0)]) (ks := [7]) (d := 0) al_prs (by decide) (by decide) (by decide)
 have h1 := chworld_ok g [(5, 0), (7, 0)] [7] 0 (by decide) (by decide)
 rw [e1] at h1
 have h2 := rounds_ok (chO [(5, 0), (7, 0)] [7] 0) 100 e2 (by decide) (by decide)
 obtain ⟨r1, r2, r3⟩ := al_runs
 generalize (roundsW (chO [(5, 0), (7, 0)] [7] 0) 100).2 = n at *
 generalize (roundsW (chO [(5, 0), (7, 0)] [7] 0) 100).1 = w at *
 generalize chO [(5, 0), (7, 0)] [7] 0 = w0 at *
 clear e1 e2
 have hl : ((((w.evs.map encEvt).length : Nat) : Int) == 2) = true := by rw [List.length_map, r1]; rfl
 have h0 : (0 : Int) < w.evs.length := by omega
 have h01 : (1 : Int) < w.evs.length := by omega
 unfold gls at *
 unfold encWd wCells ivs at *
 have h1 := h1.argw (args' := [.slf [.agg [iv 5, iv 0], .agg [iv 7, iv 0]], .slf [iv 7], iv 0]) (fun c us h => relL_cons (fun u h => sl_weak h) (relL_cons (fun u h => sl_weak h) (fun us h => h)) us h)
 refine jcalls Tryz.func18 rfl (by kernel_rfl) Tryz.ntmps18 rfl rfl (fun w0 β0 ext hβ => ?_)
 repeat (first | refine jS ?_ | refine jD ?_ | refine jB ?_)
 refine jb [0,1,2,3] h1 rfl rfl rfl ⟨rfl, rfl, rfl, rfl, rfl, rfl⟩ rfl rfl rfl rfl ?_
 repeat (first | refine jS ?_ | refine jD ?_ | refine jB ?_ | refine jV h2 ?_)
 rw [hl]
 repeat (first | refine jS ?_ | refine jD ?_ | refine jB ?_ | refine jo rfl rfl (index_at rfl rfl rfl rfl rfl rfl rfl rfl (Int.le_refl 0) h0) rfl rfl ?_)
 refine jo rfl rfl (index_pp rfl rfl rfl rfl rfl (by decide) (by decide)) rfl rfl ?_
 repeat (first | refine jS ?_ | refine jD ?_ | refine jB ?_)
 rw [r2]
 have i01 : (0 : Int) ≤ 1 := by decide
 repeat (first | refine jS ?_ | refine jD ?_ | refine jB ?_ | refine jo rfl rfl (index_at rfl rfl rfl rfl rfl rfl rfl rfl i01 h01) rfl rfl ?_)
 refine jo rfl rfl (index_pp rfl rfl rfl rfl rfl (by decide) (by decide)) rfl rfl ?_
 repeat (first | refine jS ?_ | refine jD ?_ | refine jB ?_)
 rw [r3]
 repeat (first | refine jS ?_ | refine jD ?_ | refine jB ?_)
 exact jR
theorem chtext_ok : ACalls Tryz.prog 21 [] [] (one (sv (chT0.take 225)) []) := by
 refine jcalls Tryz.func21 rfl (by kernel_rfl) Tryz.ntmps21 rfl rfl (fun w0 β0 ext hβ => ?_)
 repeat (first | refine jS ?_ | refine jD ?_ | refine jB ?_)
 exact jR
theorem chm_law (g : Gl) (l : List Pr) (ks : List Int) (d : Int) : ACalls Tryz.prog 5 [encPs l, ivs ks, iv d] (gls g) (one (bv true) (gls g)) := by
 have m1 : (if (14 : Int) < (((l.map encP).length : Nat) : Int) then (14 : Int) else (((l.map encP).length : Nat) : Int)) = ((min l.length 14 : Nat) : Int) := by rw [List.length_map]; split <;> omega
 have m2 : (if (20 : Int) < (((ks.map iv).length : Nat) : Int) then (20 : Int) else (((ks.map iv).length : Nat) : Int)) = ((min ks.length 20 : Nat) : Int) := by rw [List.length_map]; split <;> omega
 have hl1 : (l.take 14).length ≤ 14 := by rw [List.length_take]; omega
 have hk1 : (ks.take 20).length ≤ 20 := by rw [List.length_take]; omega
 unfold encPs ivs gls
 refine jcalls Tryz.func5 rfl (by kernel_rfl) Tryz.ntmps5 rfl rfl (fun w0 β0 ext hβ => ?_)
 repeat (first | refine jS ?_ | refine jB ?_)
 refine jdraw ?_ ?_; · kernel_rfl
 repeat (first | refine jS ?_ | refine jD ?_ | refine jB ?_)
 refine jo rfl rfl (cut_take 14 rfl rfl rfl m1 rfl rfl rfl (fun _ => ⟨rfl, rfl⟩)) rfl rfl ?_
 repeat (first | refine jS ?_ | refine jD ?_ | refine jB ?_)
 refine jo rfl rfl (cut_take 20 rfl rfl rfl m2 rfl rfl rfl (fun _ => ⟨rfl, rfl⟩)) rfl rfl ?_
 generalize l.take 14 = t at *
 generalize ks.take 20 = q at *
 have h1 := chworld_ok g t q d (by omega) hk1
 have h2 := chtext_ok
 have h3 := chalive_ok g
 have h4 := rpairs_ok t (by omega)
 have h5 := rkeys_ok q (by omega)
 have h6 := rsame_ok wd0 wd0_sz (by decide)
 unfold encWd wCells ivs at h6
 replace h6 := h6.argw (args' := [_, .agg [.slf [], .slf [], .slf [], iv 0, .slf [], .slf [], .slf []]]) (fun c us h => relL_cons (fun u h => h) (relL_cons (agg_weak (relL_cons (fun u h => sl_weak h) (relL_cons (fun u h => sl_weak h) (relL_cons (fun u h => sl_weak h) (relL_cons (fun u h => h) (relL_cons (fun u h => sl_weak h) (relL_cons (fun u h => sl_weak h) (relL_cons (fun u h => sl_weak h) (fun us h => h))))))))) (fun us h => h)) us h)
 have hcm : ∀ (w : Wd) (n : Int), wch0 t q d = (w, n) → ACalls Tryz.prog 17 [encPs t, ivs q, iv d] (gls g) (one (.tup [encWd w, iv n]) (gls g)) := fun w n e => by rw [e] at h1; exact h1
 clear h1
 cases hP : prsOk t with
 | false =>
  have h1 := hcm _ _ (show wch0 t q d = (wd0, 1) by unfold wch0; rw [hP, Bool.and_false]; rfl)
  rw [hP] at h4
  clear hcm
  unfold encPs ivs at *
  unfold gls at *
  unfold encWd wCells ivs at *
  repeat (first | refine jS ?_ | refine jD ?_ | refine jB ?_)
  refine jb [0,1,2,3] h1 rfl rfl rfl ⟨rfl, rfl, rfl, rfl, rfl, rfl⟩ rfl rfl rfl rfl ?_
  repeat (first | refine jo rfl rfl (neq_same rfl rfl (by kernel_rfl)) rfl rfl ?_ | refine jS ?_ | refine jD ?_ | refine jB ?_ | refine jV h2 ?_)
  refine jb [0,1,2,3] h3 rfl rfl rfl ⟨rfl, rfl, rfl, rfl, rfl, rfl⟩ rfl rfl rfl rfl ?_
  repeat (first | refine jS ?_ | refine jD ?_ | refine jB ?_ | refine jV h4 ?_ | refine jV h6 ?_)
  exact jR
 | true =>
  cases hK : keysOk q with
  | false =>
   have h1 := hcm _ _ (show wch0 t q d = (wd0, 1) by unfold wch0; rw [hK]; rfl)
   rw [hP] at h4
   rw [hK] at h5
   clear hcm
   unfold encPs ivs at *
   unfold gls at *
   unfold encWd wCells ivs at *
   repeat (first | refine jS ?_ | refine jD ?_ | refine jB ?_)
   refine jb [0,1,2,3] h1 rfl rfl rfl ⟨rfl, rfl, rfl, rfl, rfl, rfl⟩ rfl rfl rfl rfl ?_
   repeat (first | refine jo rfl rfl (neq_same rfl rfl (by kernel_rfl)) rfl rfl ?_ | refine jS ?_ | refine jD ?_ | refine jB ?_ | refine jV h2 ?_)
   refine jb [0,1,2,3] h3 rfl rfl rfl ⟨rfl, rfl, rfl, rfl, rfl, rfl⟩ rfl rfl rfl rfl ?_
   repeat (first | refine jS ?_ | refine jD ?_ | refine jB ?_ | refine jV h4 ?_ | refine jV h5 ?_ | refine jV h6 ?_)
   exact jR
  | true =>
   rw [hP] at h4
   rw [hK] at h5
   by_cases c0 : q.length > 16
   ·have h1 := hcm _ _ (show wch0 t q d = (wd0, 2) by unfold wch0; rw [hP, hK, decide_eq_false (by omega)]; rfl)
    clear hcm
    unfold encPs ivs at *
    unfold gls at *
    unfold encWd wCells ivs at *
    repeat (first | refine jS ?_ | refine jD ?_ | refine jB ?_)
    refine jb [0,1,2,3] h1 rfl rfl rfl ⟨rfl, rfl, rfl, rfl, rfl, rfl⟩ rfl rfl rfl rfl ?_
    repeat (first | refine jo rfl rfl (neq_same rfl rfl (by kernel_rfl)) rfl rfl ?_ | refine jS ?_ | refine jD ?_ | refine jB ?_ | refine jV h2 ?_)
    refine jb [0,1,2,3] h3 rfl rfl rfl ⟨rfl, rfl, rfl, rfl, rfl, rfl⟩ rfl rfl rfl rfl ?_
    repeat (first | refine jS ?_ | refine jD ?_ | refine jB ?_ | refine jV h4 ?_ | refine jV h5 ?_)
    rw [show decide ((((q.map iv).length : Nat) : Int) > 16) = true from decide_eq_true (by rw [List.length_map]; omega)]
    repeat (first | refine jS ?_ | refine jD ?_ | refine jB ?_ | refine jV h6 ?_)
    exact jR
   by_cases c1 : d < 0
   ·have h1 := hcm _ _ (wch0_depth hP hK (by omega) (by cases hi : inn d 0 8 with
     | false => rfl
     | true => have := (inn_iff.1 hi).1; omega))
    clear hcm
    unfold encPs ivs at *
    unfold gls at *
    unfold encWd wCells ivs at *
    repeat (first | refine jS ?_ | refine jD ?_ | refine jB ?_)
    refine jb [0,1,2,3] h1 rfl rfl rfl ⟨rfl, rfl, rfl, rfl, rfl, rfl⟩ rfl rfl rfl rfl ?_
    repeat (first | refine jo rfl rfl (neq_same rfl rfl (by kernel_rfl)) rfl rfl ?_ | refine jS ?_ | refine jD ?_ | refine jB ?_ | refine jV h2 ?_)
    refine jb [0,1,2,3] h3 rfl rfl rfl ⟨rfl, rfl, rfl, rfl, rfl, rfl⟩ rfl rfl rfl rfl ?_
    repeat (first | refine jS ?_ | refine jD ?_ | refine jB ?_ | refine jV h4 ?_ | refine jV h5 ?_)
    rw [show decide ((((q.map iv).length : Nat) : Int) > 16) = false from decide_eq_false (by rw [List.length_map]; omega)]
    repeat (first | refine jS ?_ | refine jD ?_ | refine jB ?_)
    rw [show decide (d < 0) = true from decide_eq_true c1]
    repeat (first | refine jS ?_ | refine jD ?_ | refine jB ?_ | refine jV h6 ?_)
    exact jR
   by_cases c2 : d > 8
   ·have h1 := hcm _ _ (wch0_depth hP hK (by omega) (by cases hi : inn d 0 8 with
     | false => rfl
     | true => have := (inn_iff.1 hi).2; omega))
    clear hcm
    unfold encPs ivs at *
    unfold gls at *
    unfold encWd wCells ivs at *
    repeat (first | refine jS ?_ | refine jD ?_ | refine jB ?_)
    refine jb [0,1,2,3] h1 rfl rfl rfl ⟨rfl, rfl, rfl, rfl, rfl, rfl⟩ rfl rfl rfl rfl ?_
    repeat (first | refine jo rfl rfl (neq_same rfl rfl (by kernel_rfl)) rfl rfl ?_ | refine jS ?_ | refine jD ?_ | refine jB ?_ | refine jV h2 ?_)
    refine jb [0,1,2,3] h3 rfl rfl rfl ⟨rfl, rfl, rfl, rfl, rfl, rfl⟩ rfl rfl rfl rfl ?_
    repeat (first | refine jS ?_ | refine jD ?_ | refine jB ?_ | refine jV h4 ?_ | refine jV h5 ?_)
    rw [show decide ((((q.map iv).length : Nat) : Int) > 16) = false from decide_eq_false (by rw [List.length_map]; omega)]
    repeat (first | refine jS ?_ | refine jD ?_ | refine jB ?_)
    rw [show decide (d < 0) = false from decide_eq_false c1]
    repeat (first | refine jS ?_ | refine jD ?_ | refine jB ?_)
    rw [show decide (d > 8) = true from decide_eq_true c2]
    repeat (first | refine jS ?_ | refine jD ?_ | refine jB ?_ | refine jV h6 ?_)
    exact jR
   have hd : inn d 0 8 = true := inn_iff.2 ⟨by omega, by omega⟩
   obtain ⟨e2, e3⟩ := wch0_good hP hK (by omega) hd
   have h1 := hcm _ _ e2
   have h7 := rchworld_ok t q d hP hK (by omega)
   have h8 := rsame_ok (chO t q d) e3.size (by show (0 : Nat) ≤ 1000000; decide)
   generalize chO t q d = w at *
   clear hcm e2 e3
   unfold encPs ivs at *
   unfold gls at *
   unfold encWd wCells ivs at *
   repeat (first | refine jS ?_ | refine jD ?_ | refine jB ?_)
   refine jb [0,1,2,3] h1 rfl rfl rfl ⟨rfl, rfl, rfl, rfl, rfl, rfl⟩ rfl rfl rfl rfl ?_
   repeat (first | refine jo rfl rfl (neq_same rfl rfl (by kernel_rfl)) rfl rfl ?_ | refine jS ?_ | refine jD ?_ | refine jB ?_ | refine jV h2 ?_)
   refine jb [0,1,2,3] h3 rfl rfl rfl ⟨rfl, rfl, rfl, rfl, rfl, rfl⟩ rfl rfl rfl rfl ?_
   repeat (first | refine jS ?_ | refine jD ?_ | refine jB ?_ | refine jV h4 ?_ | refine jV h5 ?_)
   rw [show decide ((((q.map iv).length : Nat) : Int) > 16) = false from decide_eq_false (by rw [List.length_map]; omega)]
   repeat (first | refine jS ?_ | refine jD ?_ | refine jB ?_)
   rw [show decide (d < 0) = false from decide_eq_false c1]
   repeat (first | refine jS ?_ | refine jD ?_ | refine jB ?_)
   rw [show decide (d > 8) = false from decide_eq_false c2]
   repeat (first | refine jS ?_ | refine jD ?_ | refine jB ?_ | refine jV h7 ?_ | refine jV h8 ?_)
   exact jR
end Go.AL
end
section
set_option maxRecDepth 100000
namespace Go.AL
open Go Go.Proofs
attribute [local irreducible] J
def lod (m : Mem) (k : Int) : Int × Int := cond (mRight m) (mLoad m k) (0, 1)
theorem use_no (m : Mem) (k : Int) (hw : m.words.length ≤ 1000000) (ht : m.tags.length ≤ 1000000) (hr : mRight m = false) : ACalls Tryz.prog 114 [encMem m, iv k] [] (one (iv 1) []) := by
 have h1 := mem_right m hw ht
 rw [hr] at h1
 unfold encMem mCells ivs at *
 refine jcalls Tryz.func114 rfl (by kernel_rfl) Tryz.ntmps114 rfl rfl (fun w0 β0 ext hβ => ?_)
 repeat (first | refine jS ?_ | refine jD ?_ | refine jB ?_ | refine jV h1 ?_)
 exact jR
theorem load_any (m : Mem) (k : Int) (hw : m.words.length ≤ 1000000) (ht : m.tags.length ≤ 1000000) : ACalls Tryz.prog 165 [encMem m, iv k] [] (one (.tup [iv (lod m k).1, iv (lod m k).2]) []) := by
 cases hr : mRight m with
 | true =>
  rw [show lod m k = mLoad m k by unfold lod; rw [hr]; rfl]
  exact load_ok m k hr
 | false =>
  rw [show lod m k = (0, 1) by unfold lod; rw [hr]; rfl]
  have h1 := use_no m k hw ht hr
  unfold encMem mCells ivs at *
  refine jcalls Tryz.func165 rfl (by kernel_rfl) Tryz.ntmps165 rfl rfl (fun w0 β0 ext hβ => ?_)
  repeat (first | refine jS ?_ | refine jD ?_ | refine jB ?_ | refine jV h1 ?_)
  exact jR
theorem wload_ok (m : Mem) (k : Int) (hw : m.words.length ≤ 1000000) (ht : m.tags.length ≤ 1000000) :
  ACalls Tryz.prog 117 [.ptr 0 0, iv k] [.box 133 [.sl (m.words.map iv), .sl (m.tags.map iv), iv 0]] (one (iv (lod m k).1) [.box 133 [.sl (m.words.map iv), .sl (m.tags.map iv), iv (lod m k).2]]) := by
 have h1 := load_any m k hw ht
 unfold encMem mCells ivs at *
 generalize lod m k = r at *
 refine jcalls Tryz.func117 rfl (by kernel_rfl) Tryz.ntmps117 rfl rfl (fun w0 β0 ext hβ => ?_)
 repeat (first | refine jS ?_ | refine jD ?_ | refine jB ?_ | refine jV h1 ?_)
 exact jR
def toQ (m : Mem) (t0 : Int) : Nat → Int
 | 0 => t0
 | q + 1 => (lod m (IntKind.i64.wrap (toQ m t0 q + 2))).1
def ndK (m : Mem) (to : Int) : Int := (lod m to).1
def ndV (m : Mem) (to : Int) : Int := (lod m (IntKind.i64.wrap (to + 1))).1
def prQ (m : Mem) (t0 : Int) (q : Nat) : Pr := (ndK m (toQ m t0 q), ndV m (toQ m t0 q))
def prsQ (m : Mem) (t0 : Int) (q : Nat) : List Pr := (List.range q).map (prQ m t0)
theorem prsQ_succ (m : Mem) (t0 : Int) (q : Nat) : prsQ m t0 (q + 1) = prsQ m t0 q ++ [prQ m t0 q] := by unfold prsQ; rw [List.range_succ, List.map_append]; rfl
theorem prsQ_len (m : Mem) (t0 : Int) (q : Nat) : (prsQ m t0 q).length = q := by unfold prsQ; simp
structure RdOk (m : Mem) (t0 : Int) (K : Nat) : Prop where
 le : K ≤ 12
 go : ∀ q, q < K → toQ m t0 q ≠ 0 ∧ (lod m (toQ m t0 q)).2 = 0 ∧ (lod m (IntKind.i64.wrap (toQ m t0 q + 1))).2 = 0 ∧ (lod m (IntKind.i64.wrap (toQ m t0 q + 2))).2 = 0
 stop : toQ m t0 K = 0
theorem callR {P : Program} {F : Fr} {H : List AObj} {j : Nat} {t : TypeId} {cs : List AVal} {f : FuncId} {args0 : List AVal} {x : Value} (hc : ACalls P f (.ptr 0 0 :: args0) [.box t cs] (one (.v x) [.box t cs])) {dst : Option Tmp} {o : Op} {type : TypeId} {pos : String} {after : Array Edge} {guard : Option (Nat × Bool)}
  (h : callO F o = some (f, .ptr j 0 :: args0)) (hj : H[j]? = some (.box t cs)) (h1 : ltL 1 args0 = true) (h2 : ltL 1 cs = true) (h3 : ltL 0 args0 = true) (h4 : ltL 0 cs = true) : DSem P .r ⟨dst, o, type, pos, after, guard⟩ F H (.v x) H := by
 refine ⟨rfl, fun H' hB => ?_⟩
 have hj' := hB j t cs hj
 have hlt : j < H'.length := (List.getElem?_eq_some_iff.1 hj').1
 have ht : tau [j] H'.length 0 = j := rfl
 have hbx : rnO (tau [j] H'.length) (.box t cs) = .box t cs := by simp only [rnO, ltL_rn h4]
 have hf := hc.from [j] (Hc := H') (by simp [sigOk, keepOk.nodupB, hlt]) rfl (by simp only [ltL, ltV, List.length_singleton, h1, Bool.and_true]; rfl) (by simp only [List.all_cons, List.all_nil, ltO, List.length_singleton, h2]; rfl) (fun i k hik => by
  cases i with
  | zero =>
   simp at hik
   subst hik
   rw [hj']
   simp only [List.getElem?_cons_zero, Option.map_some, hbx]
  | succ i => simp at hik)
 have hargs : rnL (tau [j] H'.length) (.ptr 0 0 :: args0) = .ptr j 0 :: args0 := by simp only [rnL, rnV, ht, ltL_rn h3]
 rw [hargs] at hf
 refine callO_sem h (hf.mono ?_)
 rintro r G ⟨r0, Ho, ⟨rfl, rfl⟩, _, rfl, rfl⟩
 refine ⟨rfl, ?_⟩
 show (H'.set j (rnO _ (.box t cs))) ++ List.map (rnO _) [] = H'
 rw [hbx, List.map_nil, List.append_nil]
 apply List.ext_getElem?
 intro i
 rw [List.getElem?_set]
 split
 ·rename_i e; subst e; rw [hj']
 ·rfl
def rdH (m : Mem) (a t0 : Int) (l : Nat) (c : LoopS) (k : Nat) : List AObj :=
 [.box 25 [.sl (m.words.map iv), .sl (m.tags.map iv)], .box 133 [.sl (m.words.map iv), .sl (m.tags.map iv), iv 0], .box 46 [.arr 5 (k + 1)], .box 131 [.ptr 1 0], .box 3 [iv a],
  .arr (k + 1) 56 2 ((prsQ m t0 k).map encP), .loop l .ready none c [.ptr 1 0, .ptr 2 0]]
theorem nodes1_ok (l : Nat) (c : LoopS) (m : Mem) (a : Int) (K : Nat) (hw : m.words.length ≤ 1000000) (ht : m.tags.length ≤ 1000000) (h0 : (lod m a).2 = 0) (hK : RdOk m (lod m a).1 K)
  (hY : ∀ k, k < K → AYield Tryz.prog l [.agg [iv (prQ m (lod m a).1 k).1, iv (prQ m (lod m a).1 k).2]] (rdH m a (lod m a).1 l c k ++ [.box 56 [iv (prQ m (lod m a).1 k).1, iv (prQ m (lod m a).1 k).2]]) (one (bv true) (rdH m a (lod m a).1 l c (k + 1) ++ [.box 56 [iv (prQ m (lod m a).1 k).1, iv (prQ m (lod m a).1 k).2]]))) :
  ACalls Tryz.prog 116 [.fn (.yield l) [] [], .ptr 3 0, .ptr 4 0] (rdH m a (lod m a).1 l c 0) (one (.tup []) (rdH m a (lod m a).1 l c K)) := by
 have hl0 := wload_ok m a hw ht
 rw [h0] at hl0
 generalize hT : (lod m a).1 = t0 at *
 unfold rdH at *
 refine jcalls Tryz.func116 rfl (by kernel_rfl) Tryz.ntmps116 rfl rfl (fun w0 β0 ext hβ => ?_)
 repeat (first | refine jS ?_ | refine jD ?_ | refine jB ?_)
 refine jb [1] hl0 rfl rfl rfl ⟨rfl, rfl, rfl, rfl, rfl, rfl⟩ rfl rfl rfl rfl ?_
 repeat (first | refine jS ?_ | refine jD ?_ | refine jB ?_)
 refine jloop 7 (fun q : Nat => q ≤ K) [0, 1, 2, 4, 5] (fun q => [.fn (.yield l) [] [], .ptr 3 0, .ptr 4 0, iv (q : Int), iv (toQ m t0 q)])
  (fun k => [.box 25 [.sl (m.words.map iv), .sl (m.tags.map iv)], .box 133 [.sl (m.words.map iv), .sl (m.tags.map iv), iv 0], .box 46 [.arr 5 (k + 1)], .box 131 [.ptr 1 0], .box 3 [iv a],
  .arr (k + 1) 56 2 ((prsQ m t0 k).map encP), .loop l .ready none c [.ptr 1 0, .ptr 2 0]]) (fun q => K - q) 0 (by show β0.length ≤ 7; rw [hβ]; exact (by decide : 7 ≤ 7)) (Nat.zero_le _) rfl rfl (fun q hq => ?_)
 by_cases hqK : q = K
 ·subst hqK
  repeat (first | refine jS ?_ | refine jD ?_ | refine jB ?_)
  rw [show (toQ m t0 q != 0) = false from by rw [hK.stop]; rfl]
  repeat (first | refine jS ?_ | refine jD ?_ | refine jB ?_)
  exact jend [] true rfl rfl rfl ⟨rfl, rfl⟩
 ·obtain ⟨n1, n2, n3, n4⟩ := hK.go q (by omega)
  have hle := hK.le
  have hne : (toQ m t0 q != 0) = true := by rw [bne_iff_ne]; exact n1
  have hw1 : IntKind.i64.wrap ((q : Int) + 1) = ((q + 1 : Nat) : Int) := by rw [wrap_id (by omega) (by omega)]; rfl
  have hla := wload_ok m (toQ m t0 q) hw ht
  have hlb := wload_ok m (IntKind.i64.wrap (toQ m t0 q + 1)) hw ht
  have hlc := wload_ok m (IntKind.i64.wrap (toQ m t0 q + 2)) hw ht
  rw [n2] at hla
  rw [n3] at hlb
  rw [n4] at hlc
  have hy := hY q (by omega)
  have hnx : toQ m t0 (q + 1) = (lod m (IntKind.i64.wrap (toQ m t0 q + 2))).1 := rfl
  rw [← hnx] at hlc
  have hk1 : (lod m (toQ m t0 q)).1 = (prQ m t0 q).1 := rfl
  have hk2 : (lod m (IntKind.i64.wrap (toQ m t0 q + 1))).1 = (prQ m t0 q).2 := rfl
  rw [hk1] at hla
  rw [hk2] at hlb
  generalize prQ m t0 q = pr at *
  generalize htn : toQ m t0 (q + 1) = tn at *
  repeat (first | refine jS ?_ | refine jD ?_ | refine jB ?_)
  rw [hne]
  repeat (first | refine jS ?_ | refine jD ?_ | refine jB ?_)
  rw [hw1]
  rw [show decide (((q + 1 : Nat) : Int) > 12) = false from decide_eq_false (by omega)]
  repeat (first | refine jS ?_ | refine jB ?_)
  refine jdrawPT [(0, .r), (1, .p), (2, .r), (3, .r), (4, .p), (5, .p), (6, .r), (7, .p), (8, .x), (9, .m)] rfl (by kernel_rfl) ?_
  repeat (first | refine jS ?_ | refine jD ?_ | refine jB ?_)
  refine jo rfl rfl (callR (j := 1) hla rfl rfl rfl rfl rfl rfl) rfl rfl ?_
  repeat (first | refine jS ?_ | refine jD ?_ | refine jB ?_)
  refine jo rfl rfl (callR (j := 1) hlb rfl rfl rfl rfl rfl rfl) rfl rfl ?_
  repeat (first | refine jS ?_ | refine jD ?_ | refine jB ?_)
  refine jb [1] hlc rfl rfl rfl ⟨rfl, rfl, rfl, rfl, rfl, rfl⟩ rfl rfl rfl rfl ?_
  repeat (first | refine jS ?_ | refine jD ?_ | refine jB ?_)
  refine jy hy rfl rfl rfl rfl (fun r' H' hres => ?_)
  obtain ⟨rfl, rfl⟩ := hres
  refine ⟨_, rfl, ?_⟩
  repeat (first | refine jS ?_ | refine jD ?_ | refine jB ?_)
  refine jnext (q + 1) (by omega) (by omega) rfl rfl rfl ?_ rfl
  rw [htn]; rfl
theorem nodes_ok (X Y : List AVal) (a : Int) : ACalls Tryz.prog 77 [.ptr 0 0, iv a] [.box 133 [.sl X, .sl Y, iv 0]] (one (.fn (.func 116) [] [.ptr 1 0, .ptr 2 0]) [.box 133 [.sl X, .sl Y, iv 0], .box 131 [.ptr 0 0], .box 3 [iv a]]) := by
 refine jcalls Tryz.func77 rfl (by kernel_rfl) Tryz.ntmps77 rfl rfl (fun w0 β0 ext hβ => ?_)
 repeat (first | refine jS ?_ | refine jD ?_ | refine jB ?_)
 exact jret [1, 2] true rfl rfl rfl ⟨rfl, rfl⟩
theorem cread_ok (m : Mem) (a : Int) (K : Nat) (hw : m.words.length ≤ 1000000) (ht : m.tags.length ≤ 1000000) (h0 : (lod m a).2 = 0) (hK : RdOk m (lod m a).1 K) :
  ACalls Tryz.prog 38 [encMem m, iv a] [] (one (.tup [encPs (prsQ m (lod m a).1 K), iv 0]) []) := by
 have hn := nodes_ok (m.words.map iv) (m.tags.map iv) a
 have hit := fun l c => nodes1_ok l c m a K hw ht h0 hK
 generalize (lod m a).1 = t0 at *
 have hle := hK.le
 unfold encMem mCells ivs encPs
 refine jcalls Tryz.func38 rfl (by kernel_rfl) Tryz.ntmps38 rfl rfl (fun w0 β0 ext hβ => ?_)
 repeat (first | refine jS ?_ | refine jD ?_ | refine jB ?_)
 refine jb [1] hn rfl rfl rfl ⟨rfl, rfl, rfl, rfl, rfl, rfl⟩ rfl rfl rfl rfl ?_
 repeat (first | refine jS ?_ | refine jD ?_ | refine jB ?_)
 refine jadB 2 0 56 2 rfl rfl rfl rfl ?_
 refine jrange [6, 7] rfl rfl rfl (fun l c c1 c2 c3 c4 c5 => ?_)
 have hc := hit l c (fun k hk => ?_)
 ·unfold rdH at hc
  refine ⟨_, hc, fun r H' hres => ?_⟩
  obtain ⟨rfl, rfl⟩ := hres
  refine ⟨_, .ready, none, _, .normal, rfl, rfl, by decide, rfl, ?_⟩
  repeat (first | refine jS ?_ | refine jD ?_ | refine jB ?_)
  exact jr rfl (fin_arr rfl rfl rfl rfl) rfl rfl
 ·unfold rdH
  refine jround (ts := [6, 7]) c1 c2 c3 c4 c5 (j := 6) rfl rfl rfl (fun w1 β1 ext1 hβ1 => ?_)
  have hpl := prsQ_len m t0 k
  have hsu := prsQ_succ m t0 k
  rw [hsu]
  generalize prQ m t0 k = pr at *
  obtain ⟨pk, pv⟩ := pr
  generalize prsQ m t0 k = L at *
  repeat (first | refine jS ?_ | refine jD ?_ | refine jB ?_)
  refine jlp ⟨rfl, ?_⟩
  repeat (first | refine jS ?_ | refine jD ?_ | refine jB ?_)
  refine jo rfl rfl (append_enc (enc := encP) (l := L) (pk, pv) rfl rfl rfl rfl rfl rfl rfl rfl rfl rfl (fun x => ⟨rfl, rfl⟩) rfl (by omega) rfl rfl) rfl rfl ?_
  repeat (first | refine jS ?_ | refine jD ?_ | refine jB ?_)
  exact jrend none rfl rfl rfl rfl ⟨rfl, rfl⟩
end Go.AL
end
section
set_option maxRecDepth 100000
namespace Go.AL
open Go Go.Proofs
attribute [local irreducible] J
theorem stL_get : ∀ (xs ws : List Int) (k j : Nat), k + xs.length ≤ ws.length → j < xs.length → (stL ws k xs)[k + j]? = xs[j]?
 | [], ws, k, j, h, hj => by simp at hj
 | x :: xs, ws, k, 0, h, hj => by
  have hl : (x :: xs).length = xs.length + 1 := rfl
  show (stL (ws.set k x) (k + 1) xs)[k + 0]? = _
  rw [stL_set _ _ _ _ _ (.inl (by omega)), List.getElem?_set, if_pos (by omega), if_pos (by rw [stL_len]; omega)]
  rfl
 | x :: xs, ws, k, j + 1, h, hj => by
  have hl : (x :: xs).length = xs.length + 1 := rfl
  show (stL (ws.set k x) (k + 1) xs)[k + (j + 1)]? = xs[j]?
  rw [show k + (j + 1) = (k + 1) + j by omega]
  exact stL_get xs _ _ _ (by rw [List.length_set]; omega) (by omega)
theorem stL_out : ∀ (xs ws : List Int) (k q : Nat), (q < k ∨ k + xs.length ≤ q) → (stL ws k xs)[q]? = ws[q]?
 | [], ws, k, q, h => rfl
 | x :: xs, ws, k, q, h => by
  have hl : (x :: xs).length = xs.length + 1 := rfl
  show (stL (ws.set k x) (k + 1) xs)[q]? = _
  rw [stL_out xs _ _ _ (by omega), List.getElem?_set_ne (by omega)]
theorem g0_q (l : List Int) (q : Nat) : g0 l q = (l[q]?).getD 0 := by unfold g0; exact List.getD_eq_getElem?_getD ..
theorem at_q (l : List Int) (q : Nat) : at' l (q : Int) = (l[q]?).getD 0 := by unfold at'; exact List.getD_eq_getElem?_getD ..
theorem chM_right {m m2 : Mem} {a b : Nat} {l : List Pr} (h : Laid m m2 a b (3 * l.length)) : mRight (chM m2 a b l) = true := by
 obtain ⟨r1, r2, r3, r4⟩ := (mRight_iff _).1 h.right
 have hW := chW_len l.length (b : Int) l 0
 refine (mRight_iff _).2 ?_
 unfold chM
 refine ⟨by simp only [List.length_set, stL_len]; exact r1, by simp only [List.length_set, stL_len]; exact r2, by simp only [List.length_set, stL_len]; exact r3, fun q hq => ?_⟩
 have r4 := r4 q hq
 have hlive : g0 m2.tags q = 1 → at' m2.tags (q : Int) = 1 := fun e => by rw [at_q, ← g0_q, e]
 by_cases hqa : q = a
 ·rw [hlive (by rw [hqa]; exact h.live)]; rfl
 ·by_cases hqb : b ≤ q ∧ q < b + 3 * l.length
  ·rw [hlive (h.row q hqb.1 hqb.2)]; rfl
  ·have e : at' ((stL m2.words b (chW l.length b l 0)).set a (if l = [] then 0 else (b : Int))) (q : Int) = at' m2.words (q : Int) := by
    rw [at_q, at_q, List.getElem?_set_ne (by omega), stL_out _ _ _ _ (by omega)]
   rw [e]; exact r4
theorem lod_live {m : Mem} {q : Nat} (hr : mRight m = true) (h : q < m.words.length) (h1 : g0 m.tags q = 1) : lod m (q : Int) = (g0 m.words q, 0) := by
 unfold lod mLoad
 rw [hr, decide_eq_true (use_live h h1)]; rfl
theorem laid_read {m m2 : Mem} {a b : Nat} {l : List Pr} (h : Laid m m2 a b (3 * l.length)) (hl : l.length ≤ 12) (hb : l = [] ∨ 1 ≤ b) :
  (lod (chM m2 a b l) (a : Int)).2 = 0 ∧ RdOk (chM m2 a b l) (lod (chM m2 a b l) (a : Int)).1 l.length ∧ prsQ (chM m2 a b l) (lod (chM m2 a b l) (a : Int)).1 l.length = l := by
 have hR := chM_right h
 obtain ⟨r1, r2, r3, r4⟩ := (mRight_iff _).1 h.right
 have hW := chW_len l.length (b : Int) l 0
 have hwl : (chM m2 a b l).words.length = m2.words.length := by unfold chM; simp only [List.length_set, stL_len]
 have ha : lod (chM m2 a b l) (a : Int) = (if l = [] then 0 else (b : Int), 0) := by
  rw [lod_live hR (by rw [hwl]; exact h.at1) h.live]
  unfold chM
  rw [g0_q, List.getElem?_set, if_pos rfl, if_pos (by rw [stL_len]; exact h.at1)]; rfl
 have hw : ∀ q, q < l.length → ∀ j, j < 3 → lod (chM m2 a b l) (((b + (3 * q + j) : Nat)) : Int) = (at' [(at' l (q : Int)).1, (at' l (q : Int)).2, chNx l.length (b : Int) q] (j : Int), 0) := fun q hq j hj => by
  have hfit : b + 3 * l.length ≤ m2.words.length := by rcases h.fits with e | e <;> omega
  have hap := h.apart
  rw [lod_live hR (by rw [hwl]; omega) (h.row _ (by omega) (by omega)), ← chW_at l.length (b : Int) l hq j hj]
  unfold chM
  rw [g0_q, List.getElem?_set_ne (by omega), stL_get _ _ _ _ (by omega) (by omega), at_q]
 rw [ha]
 have hto : ∀ q, q ≤ l.length → toQ (chM m2 a b l) (if l = [] then 0 else (b : Int)) q = if q = l.length then 0 else (b : Int) + 3 * (q : Int) := fun q => by
  induction q with
  | zero =>
   intro _
   unfold toQ
   by_cases e : l = []
   ·rw [if_pos e, if_pos (by rw [e]; rfl)]
   ·rw [if_neg e, if_neg (fun e2 => e (List.length_eq_zero_iff.1 e2.symm))]; simp
  | succ q ih =>
   intro hq
   have hfit : b + 3 * l.length ≤ m2.words.length := by rcases h.fits with e | e <;> omega
   unfold toQ
   rw [ih (by omega), if_neg (by omega), wrap_id (by omega) (by omega), show (b : Int) + 3 * (q : Int) + 2 = ((b + (3 * q + 2) : Nat) : Int) by omega, hw q (by omega) 2 (by omega)]
   show chNx l.length (b : Int) q = _
   unfold chNx
   by_cases e : q + 1 = l.length
   ·rw [if_pos e, if_pos e]
   ·rw [if_neg e, if_neg e]; omega
 have hgo : ∀ q, q < l.length → toQ (chM m2 a b l) (if l = [] then 0 else (b : Int)) q = ((b + (3 * q + 0) : Nat) : Int) ∧ IntKind.i64.wrap (toQ (chM m2 a b l) (if l = [] then 0 else (b : Int)) q + 1) = ((b + (3 * q + 1) : Nat) : Int) ∧ IntKind.i64.wrap (toQ (chM m2 a b l) (if l = [] then 0 else (b : Int)) q + 2) = ((b + (3 * q + 2) : Nat) : Int) := fun q hq => by
  have hfit : b + 3 * l.length ≤ m2.words.length := by rcases h.fits with e | e <;> omega
  rw [hto q (by omega), if_neg (by omega), wrap_id (by omega) (by omega), wrap_id (by omega) (by omega)]
  refine ⟨?_, ?_, ?_⟩ <;> omega
 refine ⟨rfl, ⟨hl, fun q hq => ?_, ?_⟩, ?_⟩
 ·obtain ⟨g1, g2, g3⟩ := hgo q hq
  have hb1 : 1 ≤ b := by
   rcases hb with e | e
   ·rw [e] at hq; simp at hq
   ·exact e
  rw [g2, g3, g1, hw q hq 0 (by omega), hw q hq 1 (by omega), hw q hq 2 (by omega)]
  exact ⟨by omega, rfl, rfl, rfl⟩
 ·show toQ _ (if l = [] then 0 else (b : Int)) _ = 0
  rw [hto _ (Nat.le_refl _), if_pos rfl]
 ·show prsQ _ (if l = [] then 0 else (b : Int)) _ = l
  unfold prsQ
  apply List.ext_getElem (by simp)
  intro q h1 h2
  rw [List.getElem_map, List.getElem_range]
  obtain ⟨g1, g2, g3⟩ := hgo q h2
  unfold prQ ndK ndV
  rw [g2, g1, hw q h2 0 (by omega), hw q h2 1 (by omega)]
  show ((at' l (q : Int)).1, (at' l (q : Int)).2) = _
  rw [at_nat l q h2]
theorem lay_cases (m : Mem) (a base : Int) (l : List Pr) : (∃ n : Int, n ≠ 0 ∧ layP m a base l = (mem0, n)) ∨ (∃ (m2 : Mem) (an b : Nat), a = (an : Int) ∧ Laid m m2 an b (3 * l.length) ∧ (l = [] ∨ 1 ≤ b) ∧ l.length ≤ 12 ∧ layP m a base l = (chM m2 an b l, 0)) := by
 cases hb : (mRight m && prsOk l) with
 | false => exact .inl ⟨1, by decide, by unfold layP; rw [hb]; rfl⟩
 | true =>
  have hb2 := hb
  rw [Bool.and_eq_true] at hb2
  obtain ⟨hR, hP⟩ := hb2
  have hp12 : l.length ≤ 12 := by
   unfold prsOk at hP
   rw [Bool.and_eq_true] at hP
   exact of_decide_eq_true hP.2
  cases hr : rngBad m.words.length a base (3 * l.length) with
  | true => exact .inl ⟨3, by decide, by unfold layP; rw [hb, hr]; rfl⟩
  | false =>
   by_cases h1 : (lay1 m a).2 = 0
   ·by_cases h2 : (lay2 m a base (3 * l.length)).2 = 0
    ·obtain ⟨k1, k2, k3⟩ := laid_ok hR h1 h2
     refine .inr ⟨_, a.toNat, base.toNat, by omega, k3, ?_, hp12, layP_fine hb hr h1 h2⟩
     by_cases e : l = []
     ·exact .inl e
     ·right
      have : 0 < l.length := List.length_pos_iff.2 e
      unfold rngBad at hr
      simp only [Bool.or_eq_false_iff, Bool.and_eq_false_iff, decide_eq_false_iff_not] at hr
      omega
    ·exact .inl ⟨_, h2, by unfold layP; rw [hb, hr, decide_eq_true h1, decide_eq_false h2]; rfl⟩
   ·exact .inl ⟨_, h1, by unfold layP; rw [hb, hr, decide_eq_false h1]; rfl⟩
theorem lmem_ok (ws ts : List Int) : ACalls Tryz.prog 35 [ivs ws, ivs ts] [] (one (encMem ⟨ws.take 170, ts.take 170⟩) []) := by
 have m1 : ∀ l : List Int, (if (170 : Int) < (((l.map iv).length : Nat) : Int) then (170 : Int) else (((l.map iv).length : Nat) : Int)) = ((min l.length 170 : Nat) : Int) := fun l => by rw [List.length_map]; split <;> omega
 have m2 := m1 ts
 have m1 := m1 ws
 unfold encMem mCells ivs
 refine jcalls Tryz.func35 rfl (by kernel_rfl) Tryz.ntmps35 rfl rfl (fun w0 β0 ext hβ => ?_)
 repeat (first | refine jS ?_ | refine jD ?_ | refine jB ?_)
 refine jo rfl rfl (cut_take 170 rfl rfl rfl m1 rfl rfl rfl (fun _ => ⟨rfl, rfl⟩)) rfl rfl ?_
 repeat (first | refine jS ?_ | refine jD ?_ | refine jB ?_)
 refine jo rfl rfl (cut_take 170 rfl rfl rfl m2 rfl rfl rfl (fun _ => ⟨rfl, rfl⟩)) rfl rfl ?_
 repeat (first | refine jS ?_ | refine jD ?_ | refine jB ?_)
 exact jR
theorem chl_law (g : Gl) (ws ts : List Int) (a base : Int) (l : List Pr) : ACalls Tryz.prog 8 [ivs ws, ivs ts, iv a, iv base, encPs l] (gls g) (one (bv true) (gls g)) := by
 have m1 : (if (14 : Int) < (((l.map encP).length : Nat) : Int) then (14 : Int) else (((l.map encP).length : Nat) : Int)) = ((min l.length 14 : Nat) : Int) := by rw [List.length_map]; split <;> omega
 have hl1 : (l.take 14).length ≤ 14 := by rw [List.length_take]; omega
 have hm := lmem_ok ws ts
 have hw : (ws.take 170).length ≤ 1000000 := by rw [List.length_take]; omega
 have ht : (ts.take 170).length ≤ 1000000 := by rw [List.length_take]; omega
 generalize hmm : (⟨ws.take 170, ts.take 170⟩ : Mem) = m at *
 have hw : m.words.length ≤ 1000000 := by subst hmm; exact hw
 have ht : m.tags.length ≤ 1000000 := by subst hmm; exact ht
 unfold encPs ivs gls
 unfold encMem mCells ivs at hm
 refine jcalls Tryz.func8 rfl (by kernel_rfl) Tryz.ntmps8 rfl rfl (fun w0 β0 ext hβ => ?_)
 repeat (first | refine jS ?_ | refine jB ?_)
 refine jdraw ?_ ?_; · kernel_rfl
 repeat (first | refine jS ?_ | refine jD ?_ | refine jB ?_ | refine jV hm ?_)
 refine jo rfl rfl (cut_take 14 rfl rfl rfl m1 rfl rfl rfl (fun _ => ⟨rfl, rfl⟩)) rfl rfl ?_
 generalize l.take 14 = t at *
 have h1 := clay_ok m a base t hw ht (by omega)
 have h2 := rmright_ok m hw ht
 have h3 := chalive_ok g
 have h4 := rpairs_ok t (by omega)
 have h6 := rsame_mem mem0 (by decide) (by decide)
 unfold encMem mCells ivs at h6
 replace h6 := h6.argw (args' := [_, .agg [.slf [], .slf []]]) (fun c us h => relL_cons (fun u h => h) (relL_cons (agg_weak (relL_cons (fun u h => sl_weak h) (relL_cons (fun u h => sl_weak h) (fun us h => h)))) (fun us h => h)) us h)
 have hbad : ∀ (X : Bool), X = false → (mRight m && prsOk t) = X → layP m a base t = (mem0, 1) := fun X e e2 => by unfold layP; rw [e2, e]; rfl
 cases hR : mRight m with
 | false =>
  rw [hbad _ rfl (by rw [hR]; rfl)] at h1
  rw [hR] at h2
  unfold encPs at *
  unfold gls at *
  unfold encMem mCells ivs at *
  repeat (first | refine jS ?_ | refine jD ?_ | refine jB ?_ | refine jV h1 ?_ | refine jV h2 ?_)
  refine jb [0,1,2,3] h3 rfl rfl rfl ⟨rfl, rfl, rfl, rfl, rfl, rfl⟩ rfl rfl rfl rfl ?_
  repeat (first | refine jS ?_ | refine jD ?_ | refine jB ?_ | refine jV h6 ?_)
  exact jR
 | true =>
  cases hP : prsOk t with
  | false =>
   rw [hbad _ rfl (by rw [hR, hP]; rfl)] at h1
   rw [hR] at h2
   rw [hP] at h4
   unfold encPs at *
   unfold gls at *
   unfold encMem mCells ivs at *
   repeat (first | refine jS ?_ | refine jD ?_ | refine jB ?_ | refine jV h1 ?_ | refine jV h2 ?_ | refine jV h4 ?_)
   refine jb [0,1,2,3] h3 rfl rfl rfl ⟨rfl, rfl, rfl, rfl, rfl, rfl⟩ rfl rfl rfl rfl ?_
   repeat (first | refine jS ?_ | refine jD ?_ | refine jB ?_ | refine jV h6 ?_)
   exact jR
  | true =>
   have h5 := rlay_ok m a base t hR hP
   rw [hR] at h2
   rw [hP] at h4
   rcases lay_cases m a base t with ⟨n, hn, e⟩ | ⟨m2, an, b, e1, e2, e3, e4, e⟩
   ·rw [e] at h1 h5
    have hnn : (n != n) = false := by simp
    have hn0 : (n != 0) = true := by rw [bne_iff_ne]; exact hn
    have h7 := rsame_mem mem0 (by decide) (by decide)
    unfold encPs at *
    unfold gls at *
    unfold encMem mCells ivs at *
    repeat (first | refine jS ?_ | refine jD ?_ | refine jB ?_ | refine jV h1 ?_ | refine jV h2 ?_ | refine jV h4 ?_ | refine jV h5 ?_)
    rw [hnn]
    repeat (first | refine jS ?_ | refine jD ?_ | refine jB ?_ | refine jV h7 ?_)
    refine jb [0,1,2,3] h3 rfl rfl rfl ⟨rfl, rfl, rfl, rfl, rfl, rfl⟩ rfl rfl rfl rfl ?_
    repeat (first | refine jS ?_ | refine jD ?_ | refine jB ?_)
    rw [hn0]
    repeat (first | refine jS ?_ | refine jD ?_ | refine jB ?_)
    exact jR
   ·rw [e] at h1 h5
    subst e1
    have hMR := chM_right e2
    obtain ⟨f1, f2, f3⟩ := laid_read e2 e4 e3
    generalize chM m2 an b t = M at *
    obtain ⟨r1, r2, r3, r4⟩ := (mRight_iff M).1 hMR
    have h7 := rsame_mem M (by omega) (by omega)
    have h8 := cread_ok M (an : Int) t.length (by omega) (by omega) f1 f2
    rw [f3] at h8
    have h9 := csame_ok t (by omega)
    clear r4 f1 f2 f3
    unfold encPs at *
    unfold gls at *
    unfold encMem mCells ivs at *
    repeat (first | refine jS ?_ | refine jD ?_ | refine jB ?_ | refine jV h1 ?_ | refine jV h2 ?_ | refine jV h4 ?_ | refine jV h5 ?_)
    repeat (first | refine jS ?_ | refine jD ?_ | refine jB ?_ | refine jV h7 ?_)
    refine jb [0,1,2,3] h3 rfl rfl rfl ⟨rfl, rfl, rfl, rfl, rfl, rfl⟩ rfl rfl rfl rfl ?_
    repeat (first | refine jS ?_ | refine jD ?_ | refine jB ?_ | refine jV h8 ?_ | refine jV h9 ?_)
    exact jR
end Go.AL
end
section
set_option maxRecDepth 100000
namespace Go.Proofs.YtplofnhnhfiokaaGreatDoor
open Go Go.AL Go.ChangeShapes Go.WideShapes Go.ChangeAt Go.RowKit
theorem own : ownKnob Tryz.prog.godebug = none := by kernel_rfl
theorem kids : Kids Tryz.prog (· < Tryz.prog.types.size) := kids_rows (by kernel_rfl) (by kernel_rfl)
theorem full : ∀ t e, t < Tryz.prog.types.size → Tryz.prog.underlying t = some (.slice e) → 0 < Tryz.prog.cellsOf e := slices_full_of _ (by kernel_rfl)
theorem g_pow : Tryz.prog.globalNamed "internal/strconv.uint64pow10" = some 1 := by kernel_rfl
theorem g_syn : Tryz.prog.globalNamed "strconv.ErrSyntax" = some 3 := by kernel_rfl
theorem g_ran : Tryz.prog.globalNamed "strconv.ErrRange" = some 4 := by kernel_rfl
def glx (g : Gl) : List (Nat × Obj) := [(1, .cells powV g.t1 g.f1), (3, .cells #[.iface g.e2 g.p2] g.t2 g.f2), (4, .cells #[.iface g.e3 g.p3] g.t3 g.f3), (2, .cells #[.int .i64 g.m] g.t0 g.f0)]
theorem var_heap {W : World} {n : String} {g : Nat} {cs : Array Value} (hg : Tryz.prog.globalNamed n = some g) (hv : W.var? Tryz.prog n = some cs) : ∃ t f, W.heap[g]? = some (.cells cs t f) := by
 unfold World.var? at hv
 rw [hg] at hv
 simp only [Option.bind_some] at hv
 split at hv
 ·rename_i c t f h
  injection hv with hv
  exact ⟨t, f, by rw [h, hv]⟩
 ·cases hv
theorem iface_head {W : World} {n nm : String} {x : DataW Unit} {r : List (String × DataW Unit)} {g : Nat} {t : TypeId} {ms : Array (String × TypeId)} (h : laidMet Tryz.prog ((n, .iface nm x) :: r) W)
  (hg : Tryz.prog.globalNamed n = some g) (ht : (Tryz.prog.globals[g]?).map (·.type) = some t) (hu : Tryz.prog.underlying t = some (.interface ms)) : ∃ e p, W.var? Tryz.prog n = some #[.iface e p] := by
 obtain ⟨ps, ⟨g0, t0, cs0, f0, p0, q0, hg0, ht0, hv0, hd0, _, _⟩, _, _⟩ := h
 obtain rfl := Option.some.inj (hg.symm.trans hg0)
 obtain rfl := Option.some.inj (ht.symm.trans ht0)
 obtain ⟨_, u, v, e, _, _⟩ := iface_of_trod hu hd0
 refine ⟨u, v, ?_⟩
 rw [hv0]
 congr 1
 apply Array.ext'
 simpa using e
def laidL : List (String × DataW Unit) := [("math/bits.deBruijn32tab", Rows.laid_math_bits_deBruijn32tab), ("math/bits.deBruijn64tab", Rows.laid_math_bits_deBruijn64tab), ("internal/strconv.uint64pow10", Rows.laid_internal_strconv_uint64pow10), ("unicode/utf8.acceptRanges", Rows.laid_unicode_utf8_acceptRanges), ("errors.errorType", Rows.laid_errors_errorType), ("strconv.ErrRange", Rows.laid_strconv_ErrRange), ("strconv.ErrSyntax", Rows.laid_strconv_ErrSyntax), ("unicode/utf8.first", Rows.laid_unicode_utf8_first)]
def plainL : List (String × DataW Unit) := [("math/bits.deBruijn32tab", Rows.laid_math_bits_deBruijn32tab), ("math/bits.deBruijn64tab", Rows.laid_math_bits_deBruijn64tab), ("internal/strconv.uint64pow10", Rows.laid_internal_strconv_uint64pow10), ("unicode/utf8.acceptRanges", Rows.laid_unicode_utf8_acceptRanges), ("strconv.ErrRange", Rows.laid_strconv_ErrRange), ("strconv.ErrSyntax", Rows.laid_strconv_ErrSyntax), ("unicode/utf8.first", Rows.laid_unicode_utf8_first)]
theorem plain_eq : (laidL.filter fun x => x.2.handleName?.isNone) = plainL := by kernel_rfl
theorem laid_plain {W : World} (h : laidMetH Tryz.prog laidL W) : laidMet Tryz.prog plainL W := by
 have h1 := (laidMetH_iff.1 h).1
 rwa [plain_eq] at h1
noncomputable def errW (os : Os) : World :=
 let w0 := World.holding Tryz.prog os ⟨#[], #[], []⟩
 { w0 with heap := w0.heap.modify 0 fun
   | .cells _ t frozen => .cells #[.iface 206 (.agg #[typeHandle Tryz.prog 87])] t frozen
   | o => o }
noncomputable def laidW (os : Os) : World := (errW os).layVars Tryz.prog plainL
theorem laidW_os (os : Os) : (laidW os).os = os := World.layVars_os _ _ _
theorem laidW_met (os : Os) (args : Array Value) : laidMetH Tryz.prog laidL ((laidW os).forCall (fun _ _ => 0) ⟨#[], args, []⟩).memory := by
 refine laidMetH_of_parts ?_ (by kernel_rfl)
 rw [plain_eq]
 have e1 : (plainL.filter fun x => (plainL.map (·.1)).contains x.1) = plainL := List.filter_eq_self.2 fun x hx => List.contains_iff_mem.2 (List.mem_map.2 ⟨x, hx, rfl⟩)
 have e2 : (plainL.filter fun x => !(plainL.map (·.1)).contains x.1) = [] := List.filter_eq_nil_iff.2 fun x hx => by rw [List.contains_iff_mem.2 (List.mem_map.2 ⟨x, hx, rfl⟩)]; simp
 have h : laidMet Tryz.prog plainL (laidW os) := laidMet_layVars (w0 := errW os) (plainL.map (·.1)) [] (by rw [e1]; rfl) (by rw [e1]; kernel_rfl) (by rw [e1]; kernel_rfl) (by rw [e2]; exact LaidIn.none)
 exact h.of_heap (by simp [World.memory, World.forCall, Input.heap])
theorem gl_exists {W : World} (hL : laidMetH Tryz.prog laidL W) (hS : W.ShapedOpen Tryz.prog) : ∃ g : Gl, ∀ p ∈ glx g, W.heap[p.1]? = some p.2 ∧ ∀ d, p.2 ≠ .deferred d := by
 replace hL := laid_plain hL
 have h3 := hL.tail.tail
 have h5 := hL.tail.tail.tail.tail
 have h6 := hL.tail.tail.tail.tail.tail
 obtain ⟨t1, f1, a1⟩ := var_heap g_pow (Lib.tabIs_of_head (k := .u64) (zs := Lib.pow10Tab) (n := 20) (t := 278) (e := 252) g_pow (by kernel_rfl) (by kernel_rfl) (by kernel_rfl) (by kernel_rfl) (by kernel_rfl) h3)
 obtain ⟨e3, p3, b3⟩ := iface_head (t := 87) h5 g_ran (by kernel_rfl) Tryz.underlying87
 obtain ⟨e2, p2, b2⟩ := iface_head (t := 87) h6 g_syn (by kernel_rfl) Tryz.underlying87
 obtain ⟨t3, f3, a3⟩ := var_heap g_ran b3
 obtain ⟨t2, f2, a2⟩ := var_heap g_syn b2
 obtain ⟨m, a0⟩ := shaped_int (g := 2) (t := 3) (zero := #[.int .i64 0]) (k := .i64) hS (of_decide_eq_true (by kernel_rfl)) (by kernel_rfl) rfl (by kernel_rfl) (by kernel_rfl) (by kernel_rfl)
 refine ⟨⟨t1, t2, t3, f1, f2, f3, e2, e3, p2, p3, 3, (0, 0), m⟩, fun p hp => ?_⟩
 simp only [glx, List.mem_cons, List.mem_nil_iff, or_false] at hp
 rcases hp with rfl | rfl | rfl | rfl
 ·exact ⟨a1, fun d h => by cases h⟩
 ·exact ⟨a2, fun d h => by cases h⟩
 ·exact ⟨a3, fun d h => by cases h⟩
 ·exact ⟨a0, fun d h => by cases h⟩
end Go.Proofs.YtplofnhnhfiokaaGreatDoor
end
section
set_option maxRecDepth 100000
namespace Go.Proofs.YtplofnhnhfiokaaGreatDoor
open Go Go.AL Go.ChangeShapes Go.WideShapes Go.ChangeAt Go.RowKit
section
variable {H : Type} {enc : TypeId × Value → H} {W : World} {v : Value} {d : DataW H} {p : List MemPlace}
theorem open_list {α : Type} {encX : α → AVal} {t e : TypeId} {r r' : TyRow} (f : List Int → α) (ht : tfind tyTab.tab t = some r') (hd' : r'.d = .slice e) (he : tfind tyTab.tab e = some r) (hi : allInt tyTab.tab Tryz.prog.stoodInHeld 100 e = true) (hz : r.size ≠ 0) (h1 : aggB r.d = false → r.size = 1)
  (hf : ∀ ns : List Int, ns.length = r.size → encX (f ns) = rowA (aggB r.d) ns) (hv : ∃ a l c, v = .slice a l c) (h : DataW.Trod enc Tryz.prog W 0 (fun _ => true) true t v d p) : ∃ m : List α, m.length ≤ maxLen ∧ Rel (out W) (.sl (m.map encX)) v := by
 obtain ⟨a, l, c, rfl⟩ := hv
 obtain ⟨n, hn⟩ := h
 obtain ⟨nss, g1, g2, g3⟩ := open_rows (T := tyTab) (st := Tryz.prog.stoodInHeld) (n := 100) ht hd' he hi hz h1 hn
 refine ⟨nss.map f, by simpa using g2, ?_⟩
 have : (nss.map f).map encX = nss.map (rowA (aggB r.d)) := by
  rw [List.map_map]
  exact List.map_congr_left fun ns hns => hf ns (g1 ns hns)
 rw [this]
 exact g3
theorem one_ints : ∀ {ns : List Int}, ns.length = 1 → ∃ a, ns = [a]
 | [a], _ => ⟨a, rfl⟩
theorem two_ints : ∀ {ns : List Int}, ns.length = 2 → ∃ a b, ns = [a, b]
 | [a, b], _ => ⟨a, b, rfl⟩
theorem open_ints (hv : ∃ a l c, v = .slice a l c) (h : DataW.Trod enc Tryz.prog W 0 (fun _ => true) true 23 v d p) : ∃ m : List Int, m.length ≤ maxLen ∧ Rel (out W) (ivs m) v :=
 open_list (fun ns => ns.headD 0) rfl rfl rfl (by kernel_rfl) (by decide) (fun _ => rfl) (fun ns hn => by obtain ⟨a, rfl⟩ := one_ints hn; rfl) hv h
theorem open_int (hv : ∃ n, v = .int .i64 n) (h : DataW.Trod enc Tryz.prog W 0 (fun _ => true) true 3 v d p) : ∃ n : Int, True ∧ Rel (out W) (.v (.int .i64 n)) v := by
 obtain ⟨n, rfl⟩ := hv
 exact ⟨n, trivial, rfl⟩
end
end Go.Proofs.YtplofnhnhfiokaaGreatDoor
end
section
set_option maxRecDepth 100000
namespace Go.Proofs.YtplofnhnhfiokaaGreatDoor
open Go Go.AL Go.ChangeShapes Go.WideShapes Go.ChangeAt Go.RowKit
section
variable {H : Type} {enc : TypeId × Value → H} {W : World} {v : Value} {d : DataW H} {p : List MemPlace}
theorem open_prs (hv : ∃ a l c, v = .slice a l c) (h : DataW.Trod enc Tryz.prog W 0 (fun _ => true) true 46 v d p) : ∃ m : List Pr, m.length ≤ maxLen ∧ Rel (out W) (encPs m) v :=
 open_list (fun ns => (ns.headD 0, ns.tail.headD 0)) rfl rfl rfl (by kernel_rfl) (by decide) (fun h => by cases h) (fun ns hn => by obtain ⟨a, b, rfl⟩ := two_ints hn; rfl) hv h
end
end Go.Proofs.YtplofnhnhfiokaaGreatDoor
end
