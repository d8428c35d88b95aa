/-
  Part 11 of the proof texts: the program logic over the model, then the contracts of the functions that the laws reach. No conditions.
-/
import Derived.Test.YtpckfmojmgafoaaGreatDoorQ10
set_option linter.unusedVariables false
set_option linter.unusedSimpArgs false
section
set_option maxRecDepth 100000
namespace Go.AL
open Go Go.Proofs
attribute [local irreducible] J
structure RfR (w : Wd) (k : Nat) : Prop where
  tso : TsR w.tso
  kb : k < w.tso.bufs.length
  kt : k < w.thr.length
  l8 : w.thr.length ≤ 8
  pc : 0 ≤ (thrAt w k).pc ∧ (thrAt w k).pc < 1000
theorem th_get (t : Thr) {q : Int} (h0 : 0 ≤ q) (h8 : q < 8) : takeA ty3 (thCells t) (0 + 1 + q.toNat * ty3.size) = some (iv (rg t q)) := by
  rcases eight h0 h8 with rfl | rfl | rfl | rfl | rfl | rfl | rfl | rfl <;> rfl
theorem racc16_ok (w : Wd) (k : Nat) (a b c : Int) (h : RfR w k) (ha : rgs a) (hb : rgs b) :
    ACalls Tryz.prog 123 [encWd w, iv (k : Int), .agg [iv 16, iv a, iv b, iv c]] [] (one (encWd (doOp w k (thrAt w k) ⟨16, a, b, c⟩)) []) := by
  have hpc := h.pc
  have hk1 : (k : Int) < w.thr.length := by have := h.kt; omega
  have hth := thrAt_at h.kt
  have e0 : doOp w k (thrAt w k) ⟨16, a, b, c⟩ = cond (decide ((tsLoad w.tso k (IntKind.i64.wrap (rg (thrAt w k) b + c))).2 = 0)) (setT w k (setR (pc1 (thrAt w k)) a (tsLoad w.tso k (IntKind.i64.wrap (rg (thrAt w k) b + c))).1)) (faultW w k (tsLoad w.tso k (IntKind.i64.wrap (rg (thrAt w k) b + c))).2) := rfl
  rw [e0]
  have h2 := rtload_ok w.tso k (IntKind.i64.wrap (rg (thrAt w k) b + c)) h.tso h.kb
  have h4 := fun v => rput_ok w k (setR (pc1 (thrAt w k)) a v) (by have := h.l8; omega)
  have h5 := fun e => rfault_ok w k e h.kt (by have := h.l8; omega)
  rw [hth] at hpc h2 h4 ⊢
  generalize hT : at' w.thr (k : Int) = T at *
  have h3 := fun v => rset_ok T.regs a v ha.1 ha.2
  have gb := th_get T hb.1 hb.2
  have hw : IntKind.i64.wrap (T.pc + 1) = T.pc + 1 := by rw [wrap_id] <;> omega
  unfold thCells rg at *
  generalize tsLoad w.tso k (IntKind.i64.wrap (g0 T.regs b.toNat + c)) = ld at *
  obtain ⟨v, e⟩ := ld
  simp only at *
  have h4 := h4 v
  have h5 := h5 e
  have h3 := h3 v
  rw [encThr_agg] at h4
  generalize setT w k (setR (pc1 T) a v) = w1 at *
  generalize faultW w k e = w2 at *
  unfold encTso tCells ivs at h2
  unfold encWd wCells ivs at *
  unfold arrA at h3
  refine jcalls Tryz.func123 rfl (by kernel_rfl) Tryz.ntmps123 rfl rfl (fun w0 β0 ext hβ => ?_)
  repeat (first | refine js rfl ?_ | (refine jdraw ?_ ?_; · kernel_rfl) | refine jbu rfl rfl rfl rfl ?_ | refine jo rfl rfl (index_at rfl rfl rfl rfl rfl rfl rfl rfl (Int.natCast_nonneg k) hk1) rfl rfl ?_)
  rw [hT]
  repeat (first | refine js rfl ?_ | (refine jdraw ?_ ?_; · kernel_rfl) | refine jbu rfl rfl rfl rfl ?_ | refine jo rfl rfl (index_arr rfl rfl rfl rfl rfl hb.1 hb.2) rfl rfl ?_ | refine jo rfl rfl (load_dsem (r := ty3) rfl rfl rfl gb) rfl rfl ?_ | refine jv h2 rfl rfl rfl rfl rfl ?_)
  by_cases he : e = 0
  · subst he
    repeat (first | refine js rfl ?_ | (refine jdraw ?_ ?_; · kernel_rfl) | refine jbu rfl rfl rfl rfl ?_ | refine jv h3 rfl rfl rfl rfl rfl ?_)
    rw [hw]
    repeat (first | refine js rfl ?_ | (refine jdraw ?_ ?_; · kernel_rfl) | refine jbu rfl rfl rfl rfl ?_ | refine jv h4 rfl rfl rfl rfl rfl ?_)
    exact jr rfl rfl rfl rfl
  · rw [show (e != 0) = true from by rw [bne_iff_ne]; exact he]
    rw [decide_eq_false he]
    repeat (first | refine js rfl ?_ | (refine jdraw ?_ ?_; · kernel_rfl) | refine jbu rfl rfl rfl rfl ?_ | refine jv h5 rfl rfl rfl rfl rfl ?_)
    exact jr rfl rfl rfl rfl
theorem racc17_ok (w : Wd) (k : Nat) (a b c : Int) (h : RfR w k) (ha : rgs a) (hb : rgs b) :
    ACalls Tryz.prog 123 [encWd w, iv (k : Int), .agg [iv 17, iv a, iv b, iv c]] [] (one (encWd (doOp w k (thrAt w k) ⟨17, a, b, c⟩)) []) := by
  have hpc := h.pc
  have hk1 : (k : Int) < w.thr.length := by have := h.kt; omega
  have hth := thrAt_at h.kt
  have e0 : doOp w k (thrAt w k) ⟨17, a, b, c⟩ = cond (decide ((tsStore w.tso k (IntKind.i64.wrap (rg (thrAt w k) b + c)) (rg (thrAt w k) a)).2 = 0)) (setT { w with tso := (tsStore w.tso k (IntKind.i64.wrap (rg (thrAt w k) b + c)) (rg (thrAt w k) a)).1 } k (pc1 (thrAt w k))) (faultW w k (tsStore w.tso k (IntKind.i64.wrap (rg (thrAt w k) b + c)) (rg (thrAt w k) a)).2) := rfl
  rw [e0]
  have h2 := rtstore_ok w.tso k (IntKind.i64.wrap (rg (thrAt w k) b + c)) (rg (thrAt w k) a) h.tso h.kb
  have h4 := fun ts => rput_ok { w with tso := ts } k (pc1 (thrAt w k)) (by have := h.l8; show w.thr.length ≤ 1000; omega)
  have h5 := fun e => rfault_ok w k e h.kt (by have := h.l8; omega)
  rw [hth] at hpc h2 h4 ⊢
  generalize hT : at' w.thr (k : Int) = T at *
  have gb := th_get T hb.1 hb.2
  have ga := th_get T ha.1 ha.2
  have hw : IntKind.i64.wrap (T.pc + 1) = T.pc + 1 := by rw [wrap_id] <;> omega
  unfold thCells rg at *
  generalize tsStore w.tso k (IntKind.i64.wrap (g0 T.regs b.toNat + c)) (g0 T.regs a.toNat) = ld at *
  obtain ⟨v, e⟩ := ld
  simp only at *
  have h4 := h4 v
  have h5 := h5 e
  rw [encThr_agg] at h4
  generalize setT { w with tso := v } k (pc1 T) = w1 at *
  generalize faultW w k e = w2 at *
  unfold encTso tCells ivs at h2
  unfold encWd wCells ivs at *
  refine jcalls Tryz.func123 rfl (by kernel_rfl) Tryz.ntmps123 rfl rfl (fun w0 β0 ext hβ => ?_)
  repeat (first | refine js rfl ?_ | (refine jdraw ?_ ?_; · kernel_rfl) | refine jbu rfl rfl rfl rfl ?_ | refine jo rfl rfl (index_at rfl rfl rfl rfl rfl rfl rfl rfl (Int.natCast_nonneg k) hk1) rfl rfl ?_)
  rw [hT]
  repeat (first | refine js rfl ?_ | (refine jdraw ?_ ?_; · kernel_rfl) | refine jbu rfl rfl rfl rfl ?_ | refine jo rfl rfl (index_arr rfl rfl rfl rfl rfl hb.1 hb.2) rfl rfl ?_ | refine jo rfl rfl (index_arr rfl rfl rfl rfl rfl ha.1 ha.2) rfl rfl ?_ | refine jo rfl rfl (load_dsem (r := ty3) rfl rfl rfl gb) rfl rfl ?_ | refine jo rfl rfl (load_dsem (r := ty3) rfl rfl rfl ga) rfl rfl ?_ | refine jv h2 rfl rfl rfl rfl rfl ?_)
  by_cases he : e = 0
  · subst he
    repeat (first | refine js rfl ?_ | (refine jdraw ?_ ?_; · kernel_rfl) | refine jbu rfl rfl rfl rfl ?_)
    rw [hw]
    repeat (first | refine js rfl ?_ | (refine jdraw ?_ ?_; · kernel_rfl) | refine jbu rfl rfl rfl rfl ?_ | refine jv h4 rfl rfl rfl rfl rfl ?_)
    exact jr rfl rfl rfl rfl
  · rw [show (e != 0) = true from by rw [bne_iff_ne]; exact he]
    rw [decide_eq_false he]
    repeat (first | refine js rfl ?_ | (refine jdraw ?_ ?_; · kernel_rfl) | refine jbu rfl rfl rfl rfl ?_ | refine jv h5 rfl rfl rfl rfl rfl ?_)
    exact jr rfl rfl rfl rfl
theorem rlock_ok (op kd : Int) (hop : op = 19 ∧ kd = 0 ∨ op = 20 ∧ kd = 1 ∨ op = 21 ∧ kd = 2) (w : Wd) (k : Nat) (a b c : Int) (h : RfR w k) (ha : rgs a) (hb : rgs b) (hc : op = 19 → rgs c) :
    ACalls Tryz.prog 124 [encWd w, iv (k : Int), .agg [iv op, iv a, iv b, iv c]] [] (one (encWd (doOp w k (thrAt w k) ⟨op, a, b, c⟩)) []) := by
  have hpc := h.pc
  have hk1 : (k : Int) < w.thr.length := by have := h.kt; omega
  have hth := thrAt_at h.kt
  have e0 : ∃ y, (op = 19 → y = rg (thrAt w k) c) ∧ (op ≠ 19 → y = 0) ∧ doOp w k (thrAt w k) ⟨op, a, b, c⟩ = cond (decide ((tsLocked w.tso k kd (rg (thrAt w k) b) (rg (thrAt w k) a) y).2.2 = 0)) (setT { w with tso := (tsLocked w.tso k kd (rg (thrAt w k) b) (rg (thrAt w k) a) y).1 } k (setR (pc1 (thrAt w k)) a (tsLocked w.tso k kd (rg (thrAt w k) b) (rg (thrAt w k) a) y).2.1)) (faultW w k (tsLocked w.tso k kd (rg (thrAt w k) b) (rg (thrAt w k) a) y).2.2) := by
    rcases hop with ⟨rfl, rfl⟩ | ⟨rfl, rfl⟩ | ⟨rfl, rfl⟩
    · exact ⟨_, fun _ => rfl, fun h => absurd rfl h, rfl⟩
    · exact ⟨0, fun h => absurd h (by decide), fun _ => rfl, rfl⟩
    · exact ⟨0, fun h => absurd h (by decide), fun _ => rfl, rfl⟩
  obtain ⟨y, hy1, hy2, e0⟩ := e0
  rw [e0]
  have h2 := rlocked_ok w.tso k kd (rg (thrAt w k) b) (rg (thrAt w k) a) y h.tso h.kb (by omega)
  have h4 := fun ts v => rput_ok { w with tso := ts } k (setR (pc1 (thrAt w k)) a v) (by have := h.l8; show w.thr.length ≤ 1000; omega)
  have h5 := fun e => rfault_ok w k e h.kt (by have := h.l8; omega)
  rw [hth] at hpc h2 h4 hy1 ⊢
  generalize hT : at' w.thr (k : Int) = T at *
  have gb := th_get T hb.1 hb.2
  have ga := th_get T ha.1 ha.2
  have h3 := fun v => rset_ok T.regs a v ha.1 ha.2
  have hw : IntKind.i64.wrap (T.pc + 1) = T.pc + 1 := by rw [wrap_id] <;> omega
  unfold thCells rg at *
  generalize tsLocked w.tso k kd (g0 T.regs b.toNat) (g0 T.regs a.toNat) y = ld at *
  obtain ⟨ts, v, e⟩ := ld
  simp only at *
  have h4 := h4 ts v
  have h5 := h5 e
  have h3 := h3 v
  rw [encThr_agg] at h4
  generalize setT { w with tso := ts } k (setR (pc1 T) a v) = w1 at *
  generalize faultW w k e = w2 at *
  unfold encTso tCells ivs at h2
  unfold encWd wCells ivs at *
  unfold arrA at h3
  rcases hop with ⟨rfl, rfl⟩ | ⟨rfl, rfl⟩ | ⟨rfl, rfl⟩
  · have hc := hc rfl
    have hy := hy1 rfl
    subst hy
    have gc := th_get T hc.1 hc.2
    unfold thCells rg at gc
    refine jcalls Tryz.func124 rfl (by kernel_rfl) Tryz.ntmps124 rfl rfl (fun w0 β0 ext hβ => ?_)
    repeat (first | refine js rfl ?_ | (refine jdraw ?_ ?_; · kernel_rfl) | refine jbu rfl rfl rfl rfl ?_ | refine jo rfl rfl (index_at rfl rfl rfl rfl rfl rfl rfl rfl (Int.natCast_nonneg k) hk1) rfl rfl ?_)
    rw [hT]
    repeat (first | refine js rfl ?_ | (refine jdraw ?_ ?_; · kernel_rfl) | refine jbu rfl rfl rfl rfl ?_ | refine jo rfl rfl (index_arr rfl rfl rfl rfl rfl hb.1 hb.2) rfl rfl ?_ | refine jo rfl rfl (index_arr rfl rfl rfl rfl rfl ha.1 ha.2) rfl rfl ?_ | refine jo rfl rfl (index_arr rfl rfl rfl rfl rfl hc.1 hc.2) rfl rfl ?_ | refine jo rfl rfl (load_dsem (r := ty3) rfl rfl rfl gb) rfl rfl ?_ | refine jo rfl rfl (load_dsem (r := ty3) rfl rfl rfl ga) rfl rfl ?_ | refine jo rfl rfl (load_dsem (r := ty3) rfl rfl rfl gc) rfl rfl ?_ | refine jv h2 rfl rfl rfl rfl rfl ?_)
    by_cases he : e = 0
    · subst he
      repeat (first | refine js rfl ?_ | (refine jdraw ?_ ?_; · kernel_rfl) | refine jbu rfl rfl rfl rfl ?_)
      rw [hw]
      repeat (first | refine js rfl ?_ | (refine jdraw ?_ ?_; · kernel_rfl) | refine jbu rfl rfl rfl rfl ?_ | refine jv h3 rfl rfl rfl rfl rfl ?_ | refine jv h4 rfl rfl rfl rfl rfl ?_)
      exact jr rfl rfl rfl rfl
    · rw [show (e != 0) = true from by rw [bne_iff_ne]; exact he]
      rw [decide_eq_false he]
      repeat (first | refine js rfl ?_ | (refine jdraw ?_ ?_; · kernel_rfl) | refine jbu rfl rfl rfl rfl ?_ | refine jv h5 rfl rfl rfl rfl rfl ?_)
      exact jr rfl rfl rfl rfl
  all_goals (
    have hy := hy2 (by decide)
    subst hy
    refine jcalls Tryz.func124 rfl (by kernel_rfl) Tryz.ntmps124 rfl rfl (fun w0 β0 ext hβ => ?_)
    repeat (first | refine js rfl ?_ | (refine jdraw ?_ ?_; · kernel_rfl) | refine jbu rfl rfl rfl rfl ?_ | refine jo rfl rfl (index_at rfl rfl rfl rfl rfl rfl rfl rfl (Int.natCast_nonneg k) hk1) rfl rfl ?_)
    rw [hT]
    repeat (first | refine js rfl ?_ | (refine jdraw ?_ ?_; · kernel_rfl) | refine jbu rfl rfl rfl rfl ?_ | refine jo rfl rfl (index_arr rfl rfl rfl rfl rfl hb.1 hb.2) rfl rfl ?_ | refine jo rfl rfl (index_arr rfl rfl rfl rfl rfl ha.1 ha.2) rfl rfl ?_ | refine jo rfl rfl (load_dsem (r := ty3) rfl rfl rfl gb) rfl rfl ?_ | refine jo rfl rfl (load_dsem (r := ty3) rfl rfl rfl ga) rfl rfl ?_ | refine jv h2 rfl rfl rfl rfl rfl ?_)
    by_cases he : e = 0
    · subst he
      repeat (first | refine js rfl ?_ | (refine jdraw ?_ ?_; · kernel_rfl) | refine jbu rfl rfl rfl rfl ?_)
      rw [hw]
      repeat (first | refine js rfl ?_ | (refine jdraw ?_ ?_; · kernel_rfl) | refine jbu rfl rfl rfl rfl ?_ | refine jv h3 rfl rfl rfl rfl rfl ?_ | refine jv h4 rfl rfl rfl rfl rfl ?_)
      exact jr rfl rfl rfl rfl
    · rw [show (e != 0) = true from by rw [bne_iff_ne]; exact he]
      rw [decide_eq_false he]
      repeat (first | refine js rfl ?_ | (refine jdraw ?_ ?_; · kernel_rfl) | refine jbu rfl rfl rfl rfl ?_ | refine jv h5 rfl rfl rfl rfl rfl ?_)
      exact jr rfl rfl rfl rfl
  )
end Go.AL
end
section
set_option maxRecDepth 100000
namespace Go.AL
open Go Go.Proofs
attribute [local irreducible] J
theorem th_left_rel {a0 a1 a2 a3 a4 a5 a6 a7 a8 a9 b0 b1 x y : AVal} (hr : ∀ (c : Ctx) u, Rel c x u → Rel c y u) : ∀ (c : Ctx) us, RelL c [a0, a1, a2, a3, a4, a5, a6, a7, a8, a9, b0, b1, x] us → RelL c [a0, a1, a2, a3, a4, a5, a6, a7, a8, a9, b0, b1, y] us := by
  intro c
  iterate 12 refine relL_cons (fun u h => h) ?_
  exact relL_cons (hr c) (fun us h => h)
theorem rbroad_ok (w : Wd) (k : Nat) (a b c : Int) (h : RfR w k) :
    ACalls Tryz.prog 125 [encWd w, iv (k : Int)] [] (one (encWd (doOp w k (thrAt w k) ⟨22, a, b, c⟩)) []) := by
  have hpc := h.pc
  have hk1 : (k : Int) < w.thr.length := by have := h.kt; omega
  have hth := thrAt_at h.kt
  have hsz := h.tso.sz
  have e0 : doOp w k (thrAt w k) ⟨22, a, b, c⟩ = cond (decide (0 < (thrAt w k).left.length)) (setT w k { pc1 (thrAt w k) with left := [] }) (setT w k { thrAt w k with left := lens w.tso.bufs }) := by
    show cond (decide ((cond (decide (0 < (thrAt w k).left.length)) (w, { pc1 (thrAt w k) with left := [] }, (0 : Int)) (w, { thrAt w k with left := lens w.tso.bufs }, 0)).2.2 = 0)) _ _ = _
    cases hd : decide (0 < (thrAt w k).left.length) <;> (unfold doN; simp only [Int.toNat_natCast]; rw [hd]; rfl)
  rw [e0]
  have h4 := rput_ok w k { pc1 (thrAt w k) with left := [] } (by have := h.l8; omega)
  have h5 := rput_ok w k { thrAt w k with left := lens w.tso.bufs } (by have := h.l8; omega)
  rw [hth] at hpc h4 h5 ⊢
  generalize hT : at' w.thr (k : Int) = T at *
  have hw : IntKind.i64.wrap (T.pc + 1) = T.pc + 1 := by rw [wrap_id] <;> omega
  have hd : decide ((((T.left.map iv).length : Nat) : Int) > 0) = decide (0 < T.left.length) := by rw [List.length_map]; exact decide_eq_decide.2 (by omega)
  rw [encThr_agg] at h4 h5
  generalize setT w k { pc1 T with left := [] } = w1 at *
  generalize setT w k { T with left := lens w.tso.bufs } = w2 at *
  unfold encWd wCells ivs at *
  cases hz : decide (0 < T.left.length) with
  | true =>
    rw [hz] at hd
    refine jcalls Tryz.func125 rfl (by kernel_rfl) Tryz.ntmps125 rfl rfl (fun w0 β0 ext hβ => ?_)
    repeat (first | refine js rfl ?_ | (refine jdraw ?_ ?_; · kernel_rfl) | refine jbu rfl rfl rfl rfl ?_ | refine jo rfl rfl (index_at rfl rfl rfl rfl rfl rfl rfl rfl (Int.natCast_nonneg k) hk1) rfl rfl ?_)
    rw [hT, hd]
    refine jc rfl rfl rfl (fun _ => ?_) (fun hf => absurd hf (by decide))
    refine js rfl ?_
    refine js rfl ?_
    refine js rfl ?_
    refine js rfl ?_
    refine js rfl ?_
    refine js rfl ?_
    refine jweakB 2 [iv T.pc, iv (g0 T.regs 0), iv (g0 T.regs 1), iv (g0 T.regs 2), iv (g0 T.regs 3), iv (g0 T.regs 4), iv (g0 T.regs 5), iv (g0 T.regs 6), iv (g0 T.regs 7), .sl (T.frames.map encFrm), iv T.state, iv T.fault, .slz []] rfl rfl rfl (th_left_rel fun c u h => slf_slz h) ?_
    repeat (first | refine js rfl ?_ | (refine jdraw ?_ ?_; · kernel_rfl) | refine jbu rfl rfl rfl rfl ?_)
    rw [hw]
    repeat (first | refine js rfl ?_ | (refine jdraw ?_ ?_; · kernel_rfl) | refine jbu rfl rfl rfl rfl ?_ | refine jv h4 rfl rfl rfl rfl rfl ?_)
    exact jr rfl rfl rfl rfl
  | false =>
    rw [hz] at hd
    refine jcalls Tryz.func125 rfl (by kernel_rfl) Tryz.ntmps125 rfl rfl (fun w0 β0 ext hβ => ?_)
    repeat (first | refine js rfl ?_ | (refine jdraw ?_ ?_; · kernel_rfl) | refine jbu rfl rfl rfl rfl ?_ | refine jo rfl rfl (index_at rfl rfl rfl rfl rfl rfl rfl rfl (Int.natCast_nonneg k) hk1) rfl rfl ?_)
    rw [hT, hd]
    repeat (first | refine jad 6 3 1 rfl rfl rfl rfl ?_ | refine js rfl ?_ | (refine jdraw ?_ ?_; · kernel_rfl) | refine jbu rfl rfl rfl rfl ?_)
    refine jloopI (fun q : Nat => q ≤ w.tso.bufs.length) [1, 2, 4, 5, 6, 30, 31, 32] (fun q => [iv (k : Int), .ptr 0 0, .ptr 1 0, .ptr 2 0, .arr 3 (q + 1), .sl (w.tso.bufs.map encBuf), .v (.int .i64 ((w.tso.bufs.map encBuf).length : Int)), .v (.int .i64 (q : Int))])
      (fun q => [.box 33 [.sl (w.code.map encIns), .sl (w.tso.mem.words.map iv), .sl (w.tso.mem.tags.map iv), iv w.tso.depth, .sl (w.tso.bufs.map encBuf), .sl (w.thr.map encThr), .sl (w.evs.map encEvt)], .box 33 [.slf [], .slf [], .slf [], iv 0, .slf [], .slf [], .slf []],
        .box 87 [iv T.pc, iv (g0 T.regs 0), iv (g0 T.regs 1), iv (g0 T.regs 2), iv (g0 T.regs 3), iv (g0 T.regs 4), iv (g0 T.regs 5), iv (g0 T.regs 6), iv (g0 T.regs 7), .sl (T.frames.map encFrm), iv T.state, iv T.fault, .slz (T.left.map iv)], .arr (q + 1) 3 1 ((lens (w.tso.bufs.take q)).map iv)]) (fun q => w.tso.bufs.length - q) 0 (Nat.zero_le _) rfl rfl (fun q hq => ?_)
    repeat (first | refine js rfl ?_ | (refine jdraw ?_ ?_; · kernel_rfl) | refine jbu rfl rfl rfl rfl ?_)
    refine jc rfl rfl rfl (fun h => ?_) (fun h => ?_)
    · have h := of_decide_eq_true h
      rw [List.length_map] at h
      have hq2 : q < w.tso.bufs.length := by omega
      have hlt := lens_take hq2
      have hll : (lens (w.tso.bufs.take q)).length ≤ 8 := by unfold lens; rw [List.length_map, List.length_take]; omega
      repeat (first | refine js rfl ?_ | (refine jdraw ?_ ?_; · kernel_rfl) | refine jbu rfl rfl rfl rfl ?_ | refine jo rfl rfl (index_at rfl rfl rfl rfl rfl rfl rfl rfl (Int.natCast_nonneg q) h) rfl rfl ?_)
      rw [show (((at' w.tso.bufs (q : Int)).map encPut).length : Int) = ((at' w.tso.bufs (q : Int)).length : Int) by rw [List.length_map]]
      repeat (first | refine js rfl ?_ | (refine jdraw ?_ ?_; · kernel_rfl) | refine jbu rfl rfl rfl rfl ?_)
      refine jo rfl rfl (append_enc (enc := iv) (l := lens (w.tso.bufs.take q)) ((at' w.tso.bufs (q : Int)).length : Int) rfl rfl rfl rfl rfl rfl rfl rfl rfl rfl (fun x => ⟨rfl, rfl⟩) rfl (by omega) rfl rfl) rfl rfl ?_
      rw [← hlt]
      repeat (first | refine js rfl ?_ | (refine jdraw ?_ ?_; · kernel_rfl) | refine jbu rfl rfl rfl rfl ?_)
      refine jnextI (q + 1) hq2 ?_ rfl (by omega)
      show some _ = some _
      rw [idx_next hq2 (by omega)]
    · have h := of_decide_eq_false h
      rw [List.length_map] at h
      have : q = w.tso.bufs.length := by omega
      subst this
      rw [List.take_length]
      have hne : (lens w.tso.bufs).map iv ≠ [] := by
        intro e
        have := congrArg List.length e
        unfold lens at this
        simp at this
        rw [this] at hsz
        simp at hsz
      refine jpub 6 rfl rfl rfl rfl ?_
      refine jweak 6 (.slz ((lens w.tso.bufs).map iv)) rfl rfl (fun c u h => slz_of hne h) ?_
      repeat (first | refine js rfl ?_ | (refine jdraw ?_ ?_; · kernel_rfl) | refine jbu rfl rfl rfl rfl ?_ | refine jv h5 rfl rfl rfl rfl rfl ?_)
      exact jr rfl rfl rfl rfl
theorem rmarkI_ok (op tag : Int) (hop : op = 24 ∧ tag = 1 ∨ op = 25 ∧ tag = 2) (w : Wd) (k : Nat) (a b c : Int) (h : RfR w k) (ha : rgs a) (hb : rgs b) :
    ACalls Tryz.prog 126 [encWd w, iv (k : Int), .agg [iv op, iv a, iv b, iv c]] [] (one (encWd (doOp w k (thrAt w k) ⟨op, a, b, c⟩)) []) := by
  have hpc := h.pc
  have hk1 : (k : Int) < w.thr.length := by have := h.kt; omega
  have hth := thrAt_at h.kt
  have e0 : doOp w k (thrAt w k) ⟨op, a, b, c⟩ = cond (decide ((mMark w.tso.mem (rg (thrAt w k) a) (rg (thrAt w k) b) tag).2 = 0)) (setT { w with tso := { w.tso with mem := (mMark w.tso.mem (rg (thrAt w k) a) (rg (thrAt w k) b) tag).1 } } k (pc1 (thrAt w k))) (faultW w k (mMark w.tso.mem (rg (thrAt w k) a) (rg (thrAt w k) b) tag).2) := by
    rcases hop with ⟨rfl, rfl⟩ | ⟨rfl, rfl⟩ <;> rfl
  rw [e0]
  have h2 := rmark_ok w.tso.mem (rg (thrAt w k) a) (rg (thrAt w k) b) tag h.tso.mem (by omega)
  have h4 := fun m => rput_ok { w with tso := { w.tso with mem := m } } k (pc1 (thrAt w k)) (by have := h.l8; show w.thr.length ≤ 1000; omega)
  have h5 := fun e => rfault_ok w k e h.kt (by have := h.l8; omega)
  rw [hth] at hpc h2 h4 ⊢
  generalize hT : at' w.thr (k : Int) = T at *
  have gb := th_get T hb.1 hb.2
  have ga := th_get T ha.1 ha.2
  have hw : IntKind.i64.wrap (T.pc + 1) = T.pc + 1 := by rw [wrap_id] <;> omega
  unfold thCells rg at *
  generalize mMark w.tso.mem (g0 T.regs a.toNat) (g0 T.regs b.toNat) tag = ld at *
  obtain ⟨v, e⟩ := ld
  simp only at *
  have h4 := h4 v
  have h5 := h5 e
  rw [encThr_agg] at h4
  generalize setT { w with tso := { w.tso with mem := v } } k (pc1 T) = w1 at *
  generalize faultW w k e = w2 at *
  unfold encMem mCells ivs at h2
  unfold encWd wCells ivs at *
  rcases hop with ⟨rfl, rfl⟩ | ⟨rfl, rfl⟩
  all_goals (
    refine jcalls Tryz.func126 rfl (by kernel_rfl) Tryz.ntmps126 rfl rfl (fun w0 β0 ext hβ => ?_)
    repeat (first | refine js rfl ?_ | (refine jdraw ?_ ?_; · kernel_rfl) | refine jbu rfl rfl rfl rfl ?_ | refine jo rfl rfl (index_at rfl rfl rfl rfl rfl rfl rfl rfl (Int.natCast_nonneg k) hk1) rfl rfl ?_)
    rw [hT]
    repeat (first | refine js rfl ?_ | (refine jdraw ?_ ?_; · kernel_rfl) | refine jbu rfl rfl rfl rfl ?_ | refine jo rfl rfl (index_arr rfl rfl rfl rfl rfl hb.1 hb.2) rfl rfl ?_ | refine jo rfl rfl (index_arr rfl rfl rfl rfl rfl ha.1 ha.2) rfl rfl ?_ | refine jo rfl rfl (load_dsem (r := ty3) rfl rfl rfl gb) rfl rfl ?_ | refine jo rfl rfl (load_dsem (r := ty3) rfl rfl rfl ga) rfl rfl ?_ | refine jv h2 rfl rfl rfl rfl rfl ?_)
    by_cases he : e = 0
    · subst he
      repeat (first | refine js rfl ?_ | (refine jdraw ?_ ?_; · kernel_rfl) | refine jbu rfl rfl rfl rfl ?_)
      rw [hw]
      repeat (first | refine js rfl ?_ | (refine jdraw ?_ ?_; · kernel_rfl) | refine jbu rfl rfl rfl rfl ?_ | refine jv h4 rfl rfl rfl rfl rfl ?_)
      exact jr rfl rfl rfl rfl
    · rw [show (e != 0) = true from by rw [bne_iff_ne]; exact he]
      rw [decide_eq_false he]
      repeat (first | refine js rfl ?_ | (refine jdraw ?_ ?_; · kernel_rfl) | refine jbu rfl rfl rfl rfl ?_ | refine jv h5 rfl rfl rfl rfl rfl ?_)
      exact jr rfl rfl rfl rfl
  )
end Go.AL
end
section
set_option maxRecDepth 100000
namespace Go.AL
open Go Go.Proofs
attribute [local irreducible] J
structure InsK (n : Nat) (i : Ins) : Prop where
  op : 0 ≤ i.op ∧ i.op ≤ 26
  ab : i.op = 16 ∨ i.op = 17 ∨ i.op = 19 ∨ i.op = 20 ∨ i.op = 21 ∨ i.op = 23 ∨ i.op = 24 ∨ i.op = 25 → rgs i.a ∧ rgs i.b
  c : i.op = 19 → rgs i.c
  lo : inn i.op 1 15 = true → loMay i = true
  call : i.op = 13 → 0 ≤ i.a ∧ i.a ≤ n
theorem may_lo {n : Nat} {i : Ins} (hn : n ≤ 1000) (h : mayI n i = true) (ho : inn i.op 1 15 = true) : loMay i = true ∧ (i.op = 13 → 0 ≤ i.a ∧ i.a ≤ n) := by
  obtain ⟨op, a, b, c⟩ := i
  have h0 : inn op 0 26 = true ∧ mayV (kdO op.toNat)[0]? n a = true ∧ mayV (kdO op.toNat)[1]? n b = true ∧ mayV (kdO op.toNat)[2]? n c = true := by
    unfold mayI at h
    simp only [Bool.and_eq_true] at h
    exact ⟨h.1, h.2.1, h.2.2.1, h.2.2.2⟩
  obtain ⟨_, hA, hB, hC⟩ := h0
  simp only at ho
  clear h
  have big : ∀ v : Int, inn v 0 n = true → inn v 0 1000 = true := fun v hv => by
    have := inn_iff.1 hv
    exact inn_iff.2 ⟨by omega, by omega⟩
  rcases inn15 ho with rfl | rfl | rfl | rfl | rfl | rfl | rfl | rfl | rfl | rfl | rfl | rfl | rfl | rfl | rfl
  · have hA : inn a 0 7 = true := hA
    exact ⟨show ((inn a 0 7 && true) && (true || _)) = true by rw [hA]; rfl, fun h => by simp at h⟩
  · have hA : inn a 0 7 = true := hA
    have hB : inn b 0 7 = true := hB
    exact ⟨show ((inn a 0 7 && (inn b 0 7 && true)) && (true || _)) = true by rw [hA, hB]; rfl, fun h => by simp at h⟩
  · have hA : inn a 0 7 = true := hA
    have hB : inn b 0 7 = true := hB
    exact ⟨show ((inn a 0 7 && (inn b 0 7 && true)) && (true || _)) = true by rw [hA, hB]; rfl, fun h => by simp at h⟩
  · have hA : inn a 0 7 = true := hA
    have hB : inn b 0 7 = true := hB
    exact ⟨show ((inn a 0 7 && (inn b 0 7 && true)) && (true || _)) = true by rw [hA, hB]; rfl, fun h => by simp at h⟩
  · have hA : inn a 0 7 = true := hA
    have hB : inn b 0 7 = true := hB
    have hC : inn c 0 7 = true := hC
    exact ⟨show ((inn a 0 7 && (inn b 0 7 && (inn c 0 7 && true))) && (true || _)) = true by rw [hA, hB, hC]; rfl, fun h => by simp at h⟩
  · have hA : inn a 0 7 = true := hA
    have hB : inn b 0 7 = true := hB
    have hC : inn c 0 7 = true := hC
    exact ⟨show ((inn a 0 7 && (inn b 0 7 && (inn c 0 7 && true))) && (true || _)) = true by rw [hA, hB, hC]; rfl, fun h => by simp at h⟩
  · have hA : inn a 0 7 = true := hA
    have hB : inn b 0 7 = true := hB
    have hC : inn c 0 7 = true := hC
    exact ⟨show ((inn a 0 7 && (inn b 0 7 && (inn c 0 7 && true))) && (true || _)) = true by rw [hA, hB, hC]; rfl, fun h => by simp at h⟩
  · have hA : inn a 0 7 = true := hA
    have hB : inn b 0 7 = true := hB
    have hC : inn c 0 7 = true := hC
    exact ⟨show ((inn a 0 7 && (inn b 0 7 && (inn c 0 7 && true))) && (true || _)) = true by rw [hA, hB, hC]; rfl, fun h => by simp at h⟩
  · have hA : inn a 0 7 = true := hA
    have hB : inn b 0 7 = true := hB
    have hC : inn c 0 7 = true := hC
    exact ⟨show ((inn a 0 7 && (inn b 0 7 && (inn c 0 7 && true))) && (true || _)) = true by rw [hA, hB, hC]; rfl, fun h => by simp at h⟩
  · have hA : inn a 0 n = true := hA
    exact ⟨show (true && (false || inn a 0 1000)) = true by rw [big _ hA]; rfl, fun h => by simp at h⟩
  · have hA : inn a 0 7 = true := hA
    have hB : inn b 0 n = true := hB
    exact ⟨show ((inn a 0 7 && true) && (false || inn b 0 1000)) = true by rw [hA, big _ hB]; rfl, fun h => by simp at h⟩
  · have hA : inn a 0 7 = true := hA
    have hB : inn b 0 n = true := hB
    exact ⟨show ((inn a 0 7 && true) && (false || inn b 0 1000)) = true by rw [hA, big _ hB]; rfl, fun h => by simp at h⟩
  · have hA : inn a 0 n = true := hA
    exact ⟨show (true && (false || inn a 0 1000)) = true by rw [big _ hA]; rfl, fun _ => inn_iff.1 hA⟩
  · exact ⟨rfl, fun h => by simp at h⟩
  · have hA : inn a 0 7 = true := hA
    exact ⟨show ((inn a 0 7 && true) && (true || _)) = true by rw [hA]; rfl, fun h => by simp at h⟩
theorem insK_may {n : Nat} {i : Ins} (hn : n ≤ 1000) (h : mayI n i = true) : InsK n i := by
  have hr := insR_may h
  have h0 : inn i.op 0 26 = true := by
    unfold mayI at h
    simp only [Bool.and_eq_true] at h
    exact h.1
  refine ⟨inn_iff.1 h0, hr.ab, hr.c, fun ho => (may_lo hn h ho).1, fun h13 => (may_lo hn h (inn_iff.2 ⟨by omega, by omega⟩)).2 h13⟩
theorem loApply_eq {k : Int} {i : Ins} {t : Thr} (ht : thRight t = true) (hk : inn k 0 7 = true) (h0 : t.state = 0) (hl : t.left = []) (hp : t.pc < 1000) (ho : inn i.op 1 15 = true) (hm : loMay i = true) (hc : i.op = 13 → inn i.a 0 1000 = true) : loApply k i t = rApp k i t := by
  have hr : loReady t k = 0 := by
    unfold loReady
    rw [ht, hk, decide_eq_true h0, hl]; rfl
  unfold loApply rApp
  rw [hr, ho, hm, decide_eq_false (show ¬ t.pc = 1000 by omega)]
  simp only [show decide ((0 : Int) = 1) = false from rfl, Bool.or_false, cond_false, decide_true, Bool.not_true]
  by_cases h13 : i.op = 13
  · rw [decide_eq_true h13]
    simp only [cond_true]
    unfold frCall rCall
    rw [ht, hc h13, decide_eq_false (show ¬ t.pc = 1000 by omega)]
    rfl
  · rw [decide_eq_false h13]
    simp only [cond_false]
    by_cases h14 : i.op = 14
    · rw [decide_eq_true h14]
      simp only [cond_true]
      unfold frBack rBack
      rw [ht]
      rfl
    · rw [decide_eq_false h14]
      rfl
theorem loApply_left {k : Int} {i : Ins} {t : Thr} (ht : thRight t = true) (hk : inn k 0 7 = true) (h0 : t.state = 0) (hl : 0 < t.left.length) (hp : t.pc < 1000) : (loApply k i t).2 = 9 := by
  have hr : loReady t k = 9 := by
    unfold loReady
    rw [ht, hk, decide_eq_true h0, decide_eq_true hl]; rfl
  unfold loApply
  rw [hr, decide_eq_false (show ¬ t.pc = 1000 by omega)]
  rfl
theorem code_at {w : Wd} {t : Thr} (h0 : 0 ≤ t.pc) (h1 : t.pc < w.code.length) : instrAt w t = at' w.code t.pc := by
  unfold instrAt
  rw [decide_eq_true (by omega)]; rfl
theorem instr_end {w : Wd} {t : Thr} (h1 : ¬ t.pc < w.code.length) : instrAt w t = ⟨27, 0, 0, 0⟩ := by
  unfold instrAt
  rw [decide_eq_false (by omega)]; rfl
theorem insK_at {w : Wd} {t : Thr} (h : WdR w) (h0 : 0 ≤ t.pc) (h1 : t.pc < w.code.length) : InsK w.code.length (at' w.code t.pc) := by
  have hc := h.code
  have hl := h.cl
  unfold rightC at hc
  rw [Bool.and_eq_true, List.all_eq_true] at hc
  obtain ⟨q, hq⟩ : ∃ q : Nat, t.pc = q := ⟨t.pc.toNat, by omega⟩
  rw [hq]
  exact insK_may hl (hc.2 _ (at_mem (by omega)))
end Go.AL
end
section
set_option maxRecDepth 100000
namespace Go.AL
open Go Go.Proofs
attribute [local irreducible] J
theorem rfr_of {w : Wd} {k : Nat} (h : WdR w) (hk : k < w.thr.length) (hp : (thrAt w k).pc < w.code.length) : RfR w k := by
  have hd := DoR.of h hk
  have hs := h.tso.sz
  have hl := h.cl
  exact ⟨h.tso, by rw [← h.len]; exact hk, hk, by rw [h.len]; omega, hd.pc.1, by omega⟩
theorem doOp_lo {w : Wd} {k : Nat} {t : Thr} {op a b c : Int} (h1 : 1 ≤ op) (h15 : op ≤ 15) : doOp w k t ⟨op, a, b, c⟩ = cond (decide ((loApply k ⟨op, a, b, c⟩ t).2 = 0)) (setT w k (loApply k ⟨op, a, b, c⟩ t).1) (faultW w k (loApply k ⟨op, a, b, c⟩ t).2) := by
  unfold doOp
  rw [doN_lo w k t a b c h1 h15]
theorem rstep_ok (w : Wd) (k : Nat) (h : WdR w) (hk : k < w.thr.length) (hc : canW w k = true) (hev : w.evs.length ≤ 900000) : ACalls Tryz.prog 79 [encWd w, iv (k : Int)] [] (one (encWd (doW w k)) []) := by
  have hd := DoR.of h hk
  have hsz := h.tso.sz
  have hl8 : w.thr.length ≤ 8 := by rw [h.len]; omega
  have hk1 : (k : Int) < w.thr.length := by omega
  have hst := canW_state hc
  have hth := thrAt_at hk
  have hmem := h.thr (thrAt w k) (by rw [hth]; exact at_mem hk)
  unfold doW
  by_cases hpc : (thrAt w k).pc < w.code.length
  · have hrf := rfr_of h hk hpc
    rw [code_at hd.pc.1 hpc]
    have hik := insK_at h hd.pc.1 hpc
    have hp0 := hd.pc.1
    have hput := fun t => rput_ok w k t (by omega)
    have hflt := fun e => rfault_ok w k e hk (by omega)
    generalize hi : at' w.code (thrAt w k).pc = i at *
    obtain ⟨op, a, b, c⟩ := i
    obtain ⟨⟨o0, o1⟩, hab, hcc, hlo, hcall⟩ := hik
    simp only at o0 o1 hab hcc hlo hcall
    rw [hth] at hi hpc hp0
    have hge : decide ((at' w.thr (k : Int)).pc ≥ (((w.code.map encIns).length : Nat) : Int)) = false := decide_eq_false (by rw [List.length_map]; omega)
    rcases (by omega : op = 0 ∨ (1 ≤ op ∧ op ≤ 15) ∨ (op = 16 ∨ op = 17) ∨ (op = 19 ∨ op = 20 ∨ op = 21) ∨ op = 22 ∨ (op = 24 ∨ op = 25) ∨ (op = 18 ∨ op = 23) ∨ op = 26) with rfl | ho | ho | ho | rfl | ho | ho | rfl
    · have e0 : doOp w k (thrAt w k) ⟨0, a, b, c⟩ = setT w k { thrAt w k with state := 1 } := rfl
      rw [e0]
      have h4 := hput { thrAt w k with state := 1 }
      rw [hth] at h4 ⊢
      generalize hT : at' w.thr (k : Int) = T at *
      rw [encThr_agg] at h4
      generalize setT w k { T with state := 1 } = w1 at *
      unfold encWd wCells ivs at *
      refine jcalls Tryz.func79 rfl (by kernel_rfl) Tryz.ntmps79 rfl rfl (fun w0 β0 ext hβ => ?_)
      repeat (first | refine js rfl ?_ | (refine jdraw ?_ ?_; · kernel_rfl) | refine jbu rfl rfl rfl rfl ?_ | refine jo rfl rfl (index_at rfl rfl rfl rfl rfl rfl rfl rfl (Int.natCast_nonneg k) hk1) rfl rfl ?_)
      rw [hT, hge]
      repeat (first | refine js rfl ?_ | (refine jdraw ?_ ?_; · kernel_rfl) | refine jbu rfl rfl rfl rfl ?_ | refine jo rfl rfl (index_at rfl rfl rfl rfl rfl rfl rfl rfl hp0 hpc) rfl rfl ?_)
      rw [hi]
      repeat (first | refine js rfl ?_ | (refine jdraw ?_ ?_; · kernel_rfl) | refine jbu rfl rfl rfl rfl ?_ | refine jv h4 rfl rfl rfl rfl rfl ?_)
      exact jr rfl rfl rfl rfl
    · rw [doOp_lo ho.1 ho.2]
      have hin : inn op 1 15 = true := inn_iff.2 ho
      have hloc := rlocal_ok op
      rw [hin] at hloc
      have ho0 : (op == 0) = false := by rw [beq_eq_false_iff_ne]; omega
      have hk7 : inn (k : Int) 0 7 = true := inn_iff.2 ⟨by omega, by omega⟩
      by_cases hl : 0 < (thrAt w k).left.length
      · rw [loApply_left hmem.1 hk7 hst hl (by rw [hth]; exact (by have := h.cl; omega))]
        rw [show decide ((9 : Int) = 0) = false from rfl]
        have h5 := hflt 9
        simp only [cond_false]
        generalize faultW w k 9 = w1 at *
        rw [hth] at hl
        have hd : decide (((((at' w.thr (k : Int)).left.map iv).length : Nat) : Int) > 0) = true := decide_eq_true (by rw [List.length_map]; omega)
        generalize hT : at' w.thr (k : Int) = T at *
        unfold encWd wCells ivs at *
        refine jcalls Tryz.func79 rfl (by kernel_rfl) Tryz.ntmps79 rfl rfl (fun w0 β0 ext hβ => ?_)
        repeat (first | refine js rfl ?_ | (refine jdraw ?_ ?_; · kernel_rfl) | refine jbu rfl rfl rfl rfl ?_ | refine jo rfl rfl (index_at rfl rfl rfl rfl rfl rfl rfl rfl (Int.natCast_nonneg k) hk1) rfl rfl ?_)
        rw [hT, hge]
        repeat (first | refine js rfl ?_ | (refine jdraw ?_ ?_; · kernel_rfl) | refine jbu rfl rfl rfl rfl ?_ | refine jo rfl rfl (index_at rfl rfl rfl rfl rfl rfl rfl rfl hp0 hpc) rfl rfl ?_)
        rw [hi]
        repeat (first | refine js rfl ?_ | (refine jdraw ?_ ?_; · kernel_rfl) | refine jbu rfl rfl rfl rfl ?_)
        rw [ho0]
        repeat (first | refine js rfl ?_ | (refine jdraw ?_ ?_; · kernel_rfl) | refine jbu rfl rfl rfl rfl ?_ | refine jv hloc rfl rfl rfl rfl rfl ?_)
        rw [hd]
        repeat (first | refine js rfl ?_ | (refine jdraw ?_ ?_; · kernel_rfl) | refine jbu rfl rfl rfl rfl ?_ | refine jv h5 rfl rfl rfl rfl rfl ?_)
        exact jr rfl rfl rfl rfl
      · have hl0 : (thrAt w k).left = [] := List.length_eq_zero_iff.1 (by omega)
        have hpc1 : (thrAt w k).pc < 1000 := hrf.pc.2
        have hlm := hlo hin
        rw [loApply_eq hmem.1 hk7 hst hl0 hpc1 hin hlm (fun h13 => by have := hcall h13; have := h.cl; exact inn_iff.2 ⟨by simp only; omega, by simp only; omega⟩)]
        have hap := rapply_ok (thrAt w k) k ⟨op, a, b, c⟩ ⟨hd.pc.1, hpc1⟩ (by have := hd.frames; omega) hlm hin
        rw [hth] at hl hap ⊢
        have hdl : decide (((((at' w.thr (k : Int)).left.map iv).length : Nat) : Int) > 0) = false := decide_eq_false (by rw [List.length_map]; omega)
        generalize hT : at' w.thr (k : Int) = T at *
        generalize rApp (k : Int) ⟨op, a, b, c⟩ T = r at *
        obtain ⟨x, e⟩ := r
        simp only at *
        have h4 := hput x
        have h5 := hflt e
        rw [show encIns ⟨op, a, b, c⟩ = .agg [iv op, iv a, iv b, iv c] from rfl] at hap
        by_cases he : e = 0
        · subst he
          rw [resThr_ok] at hap
          simp only [decide_true, cond_true]
          rw [encThr_agg] at h4
          rw [encThr_agg, encThr_agg] at hap
          generalize setT w k x = w1 at *
          unfold encWd wCells ivs at *
          refine jcalls Tryz.func79 rfl (by kernel_rfl) Tryz.ntmps79 rfl rfl (fun w0 β0 ext hβ => ?_)
          repeat (first | refine js rfl ?_ | (refine jdraw ?_ ?_; · kernel_rfl) | refine jbu rfl rfl rfl rfl ?_ | refine jo rfl rfl (index_at rfl rfl rfl rfl rfl rfl rfl rfl (Int.natCast_nonneg k) hk1) rfl rfl ?_)
          rw [hT, hge]
          repeat (first | refine js rfl ?_ | (refine jdraw ?_ ?_; · kernel_rfl) | refine jbu rfl rfl rfl rfl ?_ | refine jo rfl rfl (index_at rfl rfl rfl rfl rfl rfl rfl rfl hp0 hpc) rfl rfl ?_)
          rw [hi]
          repeat (first | refine js rfl ?_ | (refine jdraw ?_ ?_; · kernel_rfl) | refine jbu rfl rfl rfl rfl ?_)
          rw [ho0]
          repeat (first | refine js rfl ?_ | (refine jdraw ?_ ?_; · kernel_rfl) | refine jbu rfl rfl rfl rfl ?_ | refine jv hloc rfl rfl rfl rfl rfl ?_)
          rw [hdl]
          repeat (first | refine js rfl ?_ | (refine jdraw ?_ ?_; · kernel_rfl) | refine jbu rfl rfl rfl rfl ?_ | refine jv hloc rfl rfl rfl rfl rfl ?_ | refine jv hap rfl rfl rfl rfl rfl ?_ | refine jv h4 rfl rfl rfl rfl rfl ?_)
          exact jr rfl rfl rfl rfl
        · have hr : resThr (x, e) = thrE0 := by unfold resThr; rw [decide_eq_false he]; rfl
          rw [hr] at hap
          rw [decide_eq_false he]
          simp only [cond_false]
          rw [encThr_agg] at hap
          unfold thrE0 at hap
          generalize faultW w k e = w1 at *
          have hne : (e != 0) = true := by rw [bne_iff_ne]; exact he
          unfold encWd wCells ivs at *
          refine jcalls Tryz.func79 rfl (by kernel_rfl) Tryz.ntmps79 rfl rfl (fun w0 β0 ext hβ => ?_)
          repeat (first | refine js rfl ?_ | (refine jdraw ?_ ?_; · kernel_rfl) | refine jbu rfl rfl rfl rfl ?_ | refine jo rfl rfl (index_at rfl rfl rfl rfl rfl rfl rfl rfl (Int.natCast_nonneg k) hk1) rfl rfl ?_)
          rw [hT, hge]
          repeat (first | refine js rfl ?_ | (refine jdraw ?_ ?_; · kernel_rfl) | refine jbu rfl rfl rfl rfl ?_ | refine jo rfl rfl (index_at rfl rfl rfl rfl rfl rfl rfl rfl hp0 hpc) rfl rfl ?_)
          rw [hi]
          repeat (first | refine js rfl ?_ | (refine jdraw ?_ ?_; · kernel_rfl) | refine jbu rfl rfl rfl rfl ?_)
          rw [ho0]
          repeat (first | refine js rfl ?_ | (refine jdraw ?_ ?_; · kernel_rfl) | refine jbu rfl rfl rfl rfl ?_ | refine jv hloc rfl rfl rfl rfl rfl ?_)
          rw [hdl]
          repeat (first | refine js rfl ?_ | (refine jdraw ?_ ?_; · kernel_rfl) | refine jbu rfl rfl rfl rfl ?_ | refine jv hloc rfl rfl rfl rfl rfl ?_ | refine jv hap rfl rfl rfl rfl rfl ?_)
          rw [hne]
          repeat (first | refine js rfl ?_ | (refine jdraw ?_ ?_; · kernel_rfl) | refine jbu rfl rfl rfl rfl ?_ | refine jv h5 rfl rfl rfl rfl rfl ?_)
          exact jr rfl rfl rfl rfl
    · have hrg := hab (by omega)
      have e : ACalls Tryz.prog 123 [encWd w, iv (k : Int), .agg [iv op, iv a, iv b, iv c]] [] (one (encWd (doOp w k (thrAt w k) ⟨op, a, b, c⟩)) []) := by
        rcases ho with rfl | rfl
        · exact racc16_ok w k a b c hrf hrg.1 hrg.2
        · exact racc17_ok w k a b c hrf hrg.1 hrg.2
      have hloc := rlocal_ok op
      rw [show inn op 1 15 = false from by cases hi : inn op 1 15 with | false => rfl | true => have := inn_iff.1 hi; omega] at hloc
      generalize doOp w k (thrAt w k) ⟨op, a, b, c⟩ = w1 at *
      generalize hT : at' w.thr (k : Int) = T at *
      unfold encWd wCells ivs at *
      rcases ho with rfl | rfl
      all_goals (
        refine jcalls Tryz.func79 rfl (by kernel_rfl) Tryz.ntmps79 rfl rfl (fun w0 β0 ext hβ => ?_)
        repeat (first | refine js rfl ?_ | (refine jdraw ?_ ?_; · kernel_rfl) | refine jbu rfl rfl rfl rfl ?_ | refine jo rfl rfl (index_at rfl rfl rfl rfl rfl rfl rfl rfl (Int.natCast_nonneg k) hk1) rfl rfl ?_)
        rw [hT, hge]
        repeat (first | refine js rfl ?_ | (refine jdraw ?_ ?_; · kernel_rfl) | refine jbu rfl rfl rfl rfl ?_ | refine jo rfl rfl (index_at rfl rfl rfl rfl rfl rfl rfl rfl hp0 hpc) rfl rfl ?_)
        rw [hi]
        repeat (first | refine js rfl ?_ | (refine jdraw ?_ ?_; · kernel_rfl) | refine jbu rfl rfl rfl rfl ?_ | refine jv hloc rfl rfl rfl rfl rfl ?_ | refine jv e rfl rfl rfl rfl rfl ?_)
      )
      all_goals exact jr rfl rfl rfl rfl
    · have hrg := hab (by omega)
      have e : ACalls Tryz.prog 124 [encWd w, iv (k : Int), .agg [iv op, iv a, iv b, iv c]] [] (one (encWd (doOp w k (thrAt w k) ⟨op, a, b, c⟩)) []) :=
        rlock_ok op (op - 19) (by omega) w k a b c hrf hrg.1 hrg.2 hcc
      have hloc := rlocal_ok op
      rw [show inn op 1 15 = false from by cases hi : inn op 1 15 with | false => rfl | true => have := inn_iff.1 hi; omega] at hloc
      generalize doOp w k (thrAt w k) ⟨op, a, b, c⟩ = w1 at *
      generalize hT : at' w.thr (k : Int) = T at *
      unfold encWd wCells ivs at *
      rcases ho with rfl | rfl | rfl
      all_goals (
        refine jcalls Tryz.func79 rfl (by kernel_rfl) Tryz.ntmps79 rfl rfl (fun w0 β0 ext hβ => ?_)
        repeat (first | refine js rfl ?_ | (refine jdraw ?_ ?_; · kernel_rfl) | refine jbu rfl rfl rfl rfl ?_ | refine jo rfl rfl (index_at rfl rfl rfl rfl rfl rfl rfl rfl (Int.natCast_nonneg k) hk1) rfl rfl ?_)
        rw [hT, hge]
        repeat (first | refine js rfl ?_ | (refine jdraw ?_ ?_; · kernel_rfl) | refine jbu rfl rfl rfl rfl ?_ | refine jo rfl rfl (index_at rfl rfl rfl rfl rfl rfl rfl rfl hp0 hpc) rfl rfl ?_)
        rw [hi]
        repeat (first | refine js rfl ?_ | (refine jdraw ?_ ?_; · kernel_rfl) | refine jbu rfl rfl rfl rfl ?_ | refine jv hloc rfl rfl rfl rfl rfl ?_ | refine jv e rfl rfl rfl rfl rfl ?_)
      )
      all_goals exact jr rfl rfl rfl rfl
    · have e := rbroad_ok w k a b c hrf
      have hloc := rlocal_ok 22
      rw [show inn 22 1 15 = false from rfl] at hloc
      generalize doOp w k (thrAt w k) ⟨22, a, b, c⟩ = w1 at *
      generalize hT : at' w.thr (k : Int) = T at *
      unfold encWd wCells ivs at *
      refine jcalls Tryz.func79 rfl (by kernel_rfl) Tryz.ntmps79 rfl rfl (fun w0 β0 ext hβ => ?_)
      repeat (first | refine js rfl ?_ | (refine jdraw ?_ ?_; · kernel_rfl) | refine jbu rfl rfl rfl rfl ?_ | refine jo rfl rfl (index_at rfl rfl rfl rfl rfl rfl rfl rfl (Int.natCast_nonneg k) hk1) rfl rfl ?_)
      rw [hT, hge]
      repeat (first | refine js rfl ?_ | (refine jdraw ?_ ?_; · kernel_rfl) | refine jbu rfl rfl rfl rfl ?_ | refine jo rfl rfl (index_at rfl rfl rfl rfl rfl rfl rfl rfl hp0 hpc) rfl rfl ?_)
      rw [hi]
      repeat (first | refine js rfl ?_ | (refine jdraw ?_ ?_; · kernel_rfl) | refine jbu rfl rfl rfl rfl ?_ | refine jv hloc rfl rfl rfl rfl rfl ?_ | refine jv e rfl rfl rfl rfl rfl ?_)
      exact jr rfl rfl rfl rfl
    · have hrg := hab (by omega)
      have e : ACalls Tryz.prog 126 [encWd w, iv (k : Int), .agg [iv op, iv a, iv b, iv c]] [] (one (encWd (doOp w k (thrAt w k) ⟨op, a, b, c⟩)) []) :=
        rmarkI_ok op (op - 23) (by omega) w k a b c hrf hrg.1 hrg.2
      have hloc := rlocal_ok op
      rw [show inn op 1 15 = false from by cases hi : inn op 1 15 with | false => rfl | true => have := inn_iff.1 hi; omega] at hloc
      generalize doOp w k (thrAt w k) ⟨op, a, b, c⟩ = w1 at *
      generalize hT : at' w.thr (k : Int) = T at *
      unfold encWd wCells ivs at *
      rcases ho with rfl | rfl
      all_goals (
        refine jcalls Tryz.func79 rfl (by kernel_rfl) Tryz.ntmps79 rfl rfl (fun w0 β0 ext hβ => ?_)
        repeat (first | refine js rfl ?_ | (refine jdraw ?_ ?_; · kernel_rfl) | refine jbu rfl rfl rfl rfl ?_ | refine jo rfl rfl (index_at rfl rfl rfl rfl rfl rfl rfl rfl (Int.natCast_nonneg k) hk1) rfl rfl ?_)
        rw [hT, hge]
        repeat (first | refine js rfl ?_ | (refine jdraw ?_ ?_; · kernel_rfl) | refine jbu rfl rfl rfl rfl ?_ | refine jo rfl rfl (index_at rfl rfl rfl rfl rfl rfl rfl rfl hp0 hpc) rfl rfl ?_)
        rw [hi]
        repeat (first | refine js rfl ?_ | (refine jdraw ?_ ?_; · kernel_rfl) | refine jbu rfl rfl rfl rfl ?_ | refine jv hloc rfl rfl rfl rfl rfl ?_ | refine jv e rfl rfl rfl rfl rfl ?_)
      )
      all_goals exact jr rfl rfl rfl rfl
    · have e0 : doOp w k (thrAt w k) ⟨op, a, b, c⟩ = setT w k (pc1 (thrAt w k)) := by
        rcases ho with rfl | rfl <;> rfl
      rw [e0]
      have hloc := rlocal_ok op
      rw [show inn op 1 15 = false from by cases hi : inn op 1 15 with | false => rfl | true => have := inn_iff.1 hi; omega] at hloc
      have h4 := hput (pc1 (thrAt w k))
      have hw : IntKind.i64.wrap ((at' w.thr (k : Int)).pc + 1) = (at' w.thr (k : Int)).pc + 1 := by have := h.cl; rw [wrap_id] <;> omega
      rw [hth] at h4 ⊢
      generalize hT : at' w.thr (k : Int) = T at *
      rw [encThr_agg] at h4
      generalize setT w k (pc1 T) = w1 at *
      unfold encWd wCells ivs at *
      rcases ho with rfl | rfl
      all_goals (
        refine jcalls Tryz.func79 rfl (by kernel_rfl) Tryz.ntmps79 rfl rfl (fun w0 β0 ext hβ => ?_)
        repeat (first | refine js rfl ?_ | (refine jdraw ?_ ?_; · kernel_rfl) | refine jbu rfl rfl rfl rfl ?_ | refine jo rfl rfl (index_at rfl rfl rfl rfl rfl rfl rfl rfl (Int.natCast_nonneg k) hk1) rfl rfl ?_)
        rw [hT, hge]
        repeat (first | refine js rfl ?_ | (refine jdraw ?_ ?_; · kernel_rfl) | refine jbu rfl rfl rfl rfl ?_ | refine jo rfl rfl (index_at rfl rfl rfl rfl rfl rfl rfl rfl hp0 hpc) rfl rfl ?_)
        rw [hi]
        repeat (first | refine js rfl ?_ | (refine jdraw ?_ ?_; · kernel_rfl) | refine jbu rfl rfl rfl rfl ?_ | refine jv hloc rfl rfl rfl rfl rfl ?_)
        rw [hw]
        repeat (first | refine js rfl ?_ | (refine jdraw ?_ ?_; · kernel_rfl) | refine jbu rfl rfl rfl rfl ?_ | refine jv h4 rfl rfl rfl rfl rfl ?_)
      )
      all_goals exact jr rfl rfl rfl rfl
    · have e0 : doOp w k (thrAt w k) ⟨26, a, b, c⟩ = setT { w with evs := w.evs ++ [(⟨a, k, [g0 (thrAt w k).regs 0, g0 (thrAt w k).regs 1, g0 (thrAt w k).regs 2, g0 (thrAt w k).regs 3]⟩ : Evt)] } k (pc1 (thrAt w k)) := rfl
      rw [e0]
      have hloc := rlocal_ok 26
      rw [show inn 26 1 15 = false from rfl] at hloc
      have h4 := rput_ok { w with evs := w.evs ++ [(⟨a, k, [g0 (thrAt w k).regs 0, g0 (thrAt w k).regs 1, g0 (thrAt w k).regs 2, g0 (thrAt w k).regs 3]⟩ : Evt)] } k (pc1 (thrAt w k)) (by show w.thr.length ≤ 1000; omega)
      have hw : IntKind.i64.wrap ((at' w.thr (k : Int)).pc + 1) = (at' w.thr (k : Int)).pc + 1 := by have := h.cl; rw [wrap_id] <;> omega
      rw [hth] at h4 ⊢
      generalize hT : at' w.thr (k : Int) = T at *
      rw [encThr_agg] at h4
      generalize setT { w with evs := w.evs ++ [(⟨a, k, [g0 T.regs 0, g0 T.regs 1, g0 T.regs 2, g0 T.regs 3]⟩ : Evt)] } k (pc1 T) = w1 at *
      unfold encWd wCells ivs at *
      simp only at h4
      refine jcalls Tryz.func79 rfl (by kernel_rfl) Tryz.ntmps79 rfl rfl (fun w0 β0 ext hβ => ?_)
      repeat (first | refine js rfl ?_ | (refine jdraw ?_ ?_; · kernel_rfl) | refine jbu rfl rfl rfl rfl ?_ | refine jo rfl rfl (index_at rfl rfl rfl rfl rfl rfl rfl rfl (Int.natCast_nonneg k) hk1) rfl rfl ?_)
      rw [hT, hge]
      repeat (first | refine js rfl ?_ | (refine jdraw ?_ ?_; · kernel_rfl) | refine jbu rfl rfl rfl rfl ?_ | refine jo rfl rfl (index_at rfl rfl rfl rfl rfl rfl rfl rfl hp0 hpc) rfl rfl ?_)
      rw [hi]
      repeat (first | refine jad 9 137 6 rfl rfl rfl rfl ?_ | refine js rfl ?_ | (refine jdraw ?_ ?_; · kernel_rfl) | refine jbu rfl rfl rfl rfl ?_ | refine jv hloc rfl rfl rfl rfl rfl ?_)
      refine jo rfl rfl (append_encs (enc := encEvt) (l := []) (l2 := w.evs) rfl rfl rfl rfl rfl rfl rfl rfl rfl (fun x => ⟨rfl, rfl⟩) rfl (by simp only [List.length_nil]; omega) rfl rfl) rfl rfl ?_
      repeat (first | refine js rfl ?_ | (refine jdraw ?_ ?_; · kernel_rfl) | refine jbu rfl rfl rfl rfl ?_ | refine jo rfl rfl (index_arr rfl rfl rfl rfl rfl (by decide) (by decide)) rfl rfl ?_)
      refine jo rfl rfl (append_enc (enc := encEvt) (l := w.evs) (⟨a, k, [g0 T.regs 0, g0 T.regs 1, g0 T.regs 2, g0 T.regs 3]⟩ : Evt) rfl rfl rfl rfl rfl rfl rfl rfl rfl rfl (fun x => ⟨rfl, rfl⟩) rfl (by omega) rfl rfl) rfl rfl ?_
      refine js rfl ?_; refine js rfl ?_; refine js rfl ?_
      refine js rfl ?_
      refine jfin 4 [1, 2, 4, 5, 6] true rfl rfl rfl (by show β0.length ≤ 4; rw [hβ]; exact Nat.zero_le _) ?_
      repeat (first | refine js rfl ?_ | (refine jdraw ?_ ?_; · kernel_rfl) | refine jbu rfl rfl rfl rfl ?_)
      rw [hw]
      repeat (first | refine js rfl ?_ | (refine jdraw ?_ ?_; · kernel_rfl) | refine jbu rfl rfl rfl rfl ?_ | refine jv h4 rfl rfl rfl rfl rfl ?_)
      exact jr rfl rfl rfl rfl
  · rw [instr_end hpc]
    have e0 : doOp w k (thrAt w k) ⟨27, 0, 0, 0⟩ = faultW w k 3 := rfl
    rw [e0]
    have h5 := rfault_ok w k 3 hk (by omega)
    generalize faultW w k 3 = w1 at *
    rw [hth] at hpc
    have hge : decide ((at' w.thr (k : Int)).pc ≥ (((w.code.map encIns).length : Nat) : Int)) = true := decide_eq_true (by rw [List.length_map]; omega)
    generalize hT : at' w.thr (k : Int) = T at *
    unfold encWd wCells ivs at *
    refine jcalls Tryz.func79 rfl (by kernel_rfl) Tryz.ntmps79 rfl rfl (fun w0 β0 ext hβ => ?_)
    repeat (first | refine js rfl ?_ | (refine jdraw ?_ ?_; · kernel_rfl) | refine jbu rfl rfl rfl rfl ?_ | refine jo rfl rfl (index_at rfl rfl rfl rfl rfl rfl rfl rfl (Int.natCast_nonneg k) hk1) rfl rfl ?_)
    rw [hT, hge]
    repeat (first | refine js rfl ?_ | (refine jdraw ?_ ?_; · kernel_rfl) | refine jbu rfl rfl rfl rfl ?_ | refine jv h5 rfl rfl rfl rfl rfl ?_)
    exact jr rfl rfl rfl rfl
end Go.AL
end
section
set_option maxRecDepth 100000
namespace Go.AL
open Go Go.Proofs
attribute [local irreducible] J
theorem any_pos {l : List Int} : ((∀ q, q < l.length → ¬ at' l (q : Int) > 0) → (l.any fun n => decide (n > 0)) = false) ∧ ∀ q, q < l.length → at' l (q : Int) > 0 → (l.any fun n => decide (n > 0)) = true := by
  refine ⟨fun h => ?_, fun q hq h => ?_⟩
  · rw [List.any_eq_false]
    intro x hx
    obtain ⟨i, hi, rfl⟩ := List.getElem_of_mem hx
    have := h i hi
    rw [at_nat l i hi] at this
    simpa using this
  · rw [List.any_eq_true]
    rw [at_nat l q hq] at h
    exact ⟨_, List.getElem_mem hq, decide_eq_true h⟩
theorem rcan_ok (w : Wd) (k : Nat) (h : WdR w) (hk : k < w.thr.length) : ACalls Tryz.prog 78 [encWd w, iv (k : Int)] [] (one (bv (canW w k)) []) := by
  have hd := DoR.of h hk
  have hsz := h.tso.sz
  have hl8 : w.thr.length ≤ 8 := by rw [h.len]; omega
  have hk1 : (k : Int) < w.thr.length := by omega
  have hkb : (k : Int) < w.tso.bufs.length := by rw [← h.len]; omega
  have hth := thrAt_at hk
  unfold canW
  by_cases hst : (thrAt w k).state = 0
  · rw [decide_eq_true hst]
    by_cases hpc : (thrAt w k).pc < w.code.length
    · rw [code_at hd.pc.1 hpc]
      have hik := insK_at h hd.pc.1 hpc
      have hp0 := hd.pc.1
      have hlf := hd.left
      generalize hi : at' w.code (thrAt w k).pc = i at *
      obtain ⟨op, a, b, c⟩ := i
      obtain ⟨⟨o0, o1⟩, hab, hcc, hlo, hcall⟩ := hik
      simp only at o0 o1 hab hcc hlo hcall
      rw [hth] at hi hpc hp0 hst hlf ⊢
      have hge : decide ((at' w.thr (k : Int)).pc ≥ (((w.code.map encIns).length : Nat) : Int)) = false := decide_eq_false (by rw [List.length_map]; omega)
      have hs0 : ((at' w.thr (k : Int)).state != 0) = false := by rw [bne_eq_false_iff_eq]; exact hst
      have hbl : bufAt w.tso k = at' w.tso.bufs (k : Int) := rfl
      generalize hT : at' w.thr (k : Int) = T at *
      rcases (by omega : op = 17 ∨ (op = 18 ∨ op = 19 ∨ op = 20 ∨ op = 21) ∨ op = 22 ∨ op = 23 ∨ (op < 17 ∨ op > 23)) with rfl | ho | rfl | rfl | ho
      · have e0 : canOp w k T ⟨17, a, b, c⟩ = (decide (((bufAt w.tso k).length : Int) < w.tso.depth) || decide (w.tso.depth = 0)) := rfl
        rw [e0, hbl]
        generalize hB : at' w.tso.bufs (k : Int) = B at *
        unfold encWd wCells ivs at *
        refine jcalls Tryz.func78 rfl (by kernel_rfl) Tryz.ntmps78 rfl rfl (fun w0 β0 ext hβ => ?_)
        repeat (first | refine js rfl ?_ | (refine jdraw ?_ ?_; · kernel_rfl) | refine jbu rfl rfl rfl rfl ?_ | refine jo rfl rfl (index_at rfl rfl rfl rfl rfl rfl rfl rfl (Int.natCast_nonneg k) hk1) rfl rfl ?_)
        rw [hT, hs0]
        repeat (first | refine js rfl ?_ | (refine jdraw ?_ ?_; · kernel_rfl) | refine jbu rfl rfl rfl rfl ?_)
        rw [hge]
        repeat (first | refine js rfl ?_ | (refine jdraw ?_ ?_; · kernel_rfl) | refine jbu rfl rfl rfl rfl ?_ | refine jo rfl rfl (index_at rfl rfl rfl rfl rfl rfl rfl rfl hp0 hpc) rfl rfl ?_)
        rw [hi]
        repeat (first | refine js rfl ?_ | (refine jdraw ?_ ?_; · kernel_rfl) | refine jbu rfl rfl rfl rfl ?_ | refine jo rfl rfl (index_at rfl rfl rfl rfl rfl rfl rfl rfl (Int.natCast_nonneg k) hkb) rfl rfl ?_)
        rw [hB]
        repeat (first | refine js rfl ?_ | (refine jdraw ?_ ?_; · kernel_rfl) | refine jbu rfl rfl rfl rfl ?_)
        rw [show (w.tso.depth == 0) = decide (w.tso.depth = 0) from rfl]
        cases hz : decide (w.tso.depth = 0) with
        | true =>
          repeat (first | refine js rfl ?_ | (refine jdraw ?_ ?_; · kernel_rfl) | refine jbu rfl rfl rfl rfl ?_)
          rw [Bool.or_true]
          exact jr rfl rfl rfl rfl
        | false =>
          repeat (first | refine js rfl ?_ | (refine jdraw ?_ ?_; · kernel_rfl) | refine jbu rfl rfl rfl rfl ?_)
          rw [show decide ((((B.map encPut).length : Nat) : Int) < w.tso.depth) = decide ((B.length : Int) < w.tso.depth) from by rw [List.length_map]]
          repeat (first | refine js rfl ?_ | (refine jdraw ?_ ?_; · kernel_rfl) | refine jbu rfl rfl rfl rfl ?_)
          rw [Bool.or_false]
          exact jr rfl rfl rfl rfl
      · have e0 : canOp w k T ⟨op, a, b, c⟩ = decide ((bufAt w.tso k).length = 0) := by rcases ho with rfl | rfl | rfl | rfl <;> rfl
        rw [e0, hbl]
        generalize hB : at' w.tso.bufs (k : Int) = B at *
        have hd0 : ((((B.map encPut).length : Nat) : Int) == 0) = decide (B.length = 0) := by rw [List.length_map, int_beq]; exact decide_eq_decide.2 (by omega)
        unfold encWd wCells ivs at *
        rcases ho with rfl | rfl | rfl | rfl
        all_goals (
          refine jcalls Tryz.func78 rfl (by kernel_rfl) Tryz.ntmps78 rfl rfl (fun w0 β0 ext hβ => ?_)
          repeat (first | refine js rfl ?_ | (refine jdraw ?_ ?_; · kernel_rfl) | refine jbu rfl rfl rfl rfl ?_ | refine jo rfl rfl (index_at rfl rfl rfl rfl rfl rfl rfl rfl (Int.natCast_nonneg k) hk1) rfl rfl ?_)
          rw [hT, hs0]
          repeat (first | refine js rfl ?_ | (refine jdraw ?_ ?_; · kernel_rfl) | refine jbu rfl rfl rfl rfl ?_)
          rw [hge]
          repeat (first | refine js rfl ?_ | (refine jdraw ?_ ?_; · kernel_rfl) | refine jbu rfl rfl rfl rfl ?_ | refine jo rfl rfl (index_at rfl rfl rfl rfl rfl rfl rfl rfl hp0 hpc) rfl rfl ?_)
          rw [hi]
          repeat (first | refine js rfl ?_ | (refine jdraw ?_ ?_; · kernel_rfl) | refine jbu rfl rfl rfl rfl ?_ | refine jo rfl rfl (index_at rfl rfl rfl rfl rfl rfl rfl rfl (Int.natCast_nonneg k) hkb) rfl rfl ?_)
          rw [hB]
          repeat (first | refine js rfl ?_ | (refine jdraw ?_ ?_; · kernel_rfl) | refine jbu rfl rfl rfl rfl ?_)
          rw [hd0]
          repeat (first | refine js rfl ?_ | (refine jdraw ?_ ?_; · kernel_rfl) | refine jbu rfl rfl rfl rfl ?_)
        )
        all_goals exact jr rfl rfl rfl rfl
      · have e0 : canOp w k T ⟨22, a, b, c⟩ = !T.left.any fun n => decide (n > 0) := rfl
        rw [e0]
        obtain ⟨ha1, ha2⟩ := any_pos (l := T.left)
        unfold encWd wCells ivs at *
        refine jcalls Tryz.func78 rfl (by kernel_rfl) Tryz.ntmps78 rfl rfl (fun w0 β0 ext hβ => ?_)
        repeat (first | refine js rfl ?_ | (refine jdraw ?_ ?_; · kernel_rfl) | refine jbu rfl rfl rfl rfl ?_ | refine jo rfl rfl (index_at rfl rfl rfl rfl rfl rfl rfl rfl (Int.natCast_nonneg k) hk1) rfl rfl ?_)
        rw [hT, hs0]
        repeat (first | refine js rfl ?_ | (refine jdraw ?_ ?_; · kernel_rfl) | refine jbu rfl rfl rfl rfl ?_)
        rw [hge]
        repeat (first | refine js rfl ?_ | (refine jdraw ?_ ?_; · kernel_rfl) | refine jbu rfl rfl rfl rfl ?_ | refine jo rfl rfl (index_at rfl rfl rfl rfl rfl rfl rfl rfl hp0 hpc) rfl rfl ?_)
        rw [hi]
        repeat (first | refine js rfl ?_ | (refine jdraw ?_ ?_; · kernel_rfl) | refine jbu rfl rfl rfl rfl ?_ | refine jo rfl rfl (index_at rfl rfl rfl rfl rfl rfl rfl rfl (Int.natCast_nonneg k) hkb) rfl rfl ?_)
        refine jweak 78 (.sl (T.left.map iv)) rfl rfl (fun c u h => slz_weak h) ?_
        refine jloopI (fun q : Nat => q ≤ T.left.length ∧ ∀ p, p < q → ¬ at' T.left (p : Int) > 0) [2, 4, 5, 6, 78, 79, 80] (fun q => [.ptr 0 0, bv false, .ptr 1 0, .ptr 2 0, .sl (T.left.map iv), .v (.int .i64 ((T.left.map iv).length : Int)), .v (.int .i64 (q : Int))])
          (fun q => _) (fun q => T.left.length - q) 0 ⟨Nat.zero_le _, fun p hp => absurd hp (Nat.not_lt_zero _)⟩ rfl rfl (fun q hq => ?_)
        obtain ⟨hq, hok⟩ := hq
        repeat (first | refine js rfl ?_ | (refine jdraw ?_ ?_; · kernel_rfl) | refine jbu rfl rfl rfl rfl ?_)
        refine jc rfl rfl rfl (fun h => ?_) (fun h => ?_)
        · have h := of_decide_eq_true h
          rw [List.length_map] at h
          have hq2 : q < T.left.length := by omega
          have hidx : IntKind.i64.wrap ((q : Int) + 1) = ((q + 1 : Nat) : Int) := idx_next hq2 (by omega)
          have ha2 := ha2 q hq2
          repeat (first | refine js rfl ?_ | (refine jdraw ?_ ?_; · kernel_rfl) | refine jbu rfl rfl rfl rfl ?_ | refine jo rfl rfl (index_at rfl rfl rfl rfl rfl rfl rfl rfl (Int.natCast_nonneg q) h) rfl rfl ?_)
          by_cases e : at' T.left (q : Int) > 0
          · rw [decide_eq_true e, ha2 e]
            repeat (first | refine js rfl ?_ | (refine jdraw ?_ ?_; · kernel_rfl) | refine jbu rfl rfl rfl rfl ?_)
            exact jr rfl rfl rfl rfl
          · rw [decide_eq_false e]
            repeat (first | refine js rfl ?_ | (refine jdraw ?_ ?_; · kernel_rfl) | refine jbu rfl rfl rfl rfl ?_)
            refine jnextI (q + 1) ⟨hq2, fun p hp => ?_⟩ ?_ rfl (by omega)
            · by_cases ep : p = q
              · subst ep; exact e
              · exact hok p (by omega)
            · show some _ = some _
              rw [hidx]
        · have h := of_decide_eq_false h
          rw [List.length_map] at h
          rw [ha1 fun p hp => hok p (by omega)]
          repeat (first | refine js rfl ?_ | (refine jdraw ?_ ?_; · kernel_rfl) | refine jbu rfl rfl rfl rfl ?_)
          exact jr rfl rfl rfl rfl
      · have hrg := hab (by omega)
        have e0 : canOp w k T ⟨23, a, b, c⟩ = (decide ((bufAt w.tso k).length = 0) && (!decide ((mLoad w.tso.mem (rg T b)).2 = 0) || !decide ((mLoad w.tso.mem (rg T b)).1 = rg T a))) := rfl
        rw [e0, hbl]
        have h2 := rload_ok w.tso.mem (rg T b) h.tso.mem
        have gb := th_get T hrg.2.1 hrg.2.2
        have ga := th_get T hrg.1.1 hrg.1.2
        generalize hB : at' w.tso.bufs (k : Int) = B at *
        have hd0 : ((((B.map encPut).length : Nat) : Int) == 0) = decide (B.length = 0) := by rw [List.length_map, int_beq]; exact decide_eq_decide.2 (by omega)
        generalize mLoad w.tso.mem (rg T b) = ld at *
        obtain ⟨v, e⟩ := ld
        unfold encMem mCells ivs at h2
        unfold thCells rg at *
        simp only at *
        unfold encWd wCells ivs at *
        refine jcalls Tryz.func78 rfl (by kernel_rfl) Tryz.ntmps78 rfl rfl (fun w0 β0 ext hβ => ?_)
        repeat (first | refine js rfl ?_ | (refine jdraw ?_ ?_; · kernel_rfl) | refine jbu rfl rfl rfl rfl ?_ | refine jo rfl rfl (index_at rfl rfl rfl rfl rfl rfl rfl rfl (Int.natCast_nonneg k) hk1) rfl rfl ?_)
        rw [hT, hs0]
        repeat (first | refine js rfl ?_ | (refine jdraw ?_ ?_; · kernel_rfl) | refine jbu rfl rfl rfl rfl ?_)
        rw [hge]
        repeat (first | refine js rfl ?_ | (refine jdraw ?_ ?_; · kernel_rfl) | refine jbu rfl rfl rfl rfl ?_ | refine jo rfl rfl (index_at rfl rfl rfl rfl rfl rfl rfl rfl hp0 hpc) rfl rfl ?_)
        rw [hi]
        repeat (first | refine js rfl ?_ | (refine jdraw ?_ ?_; · kernel_rfl) | refine jbu rfl rfl rfl rfl ?_ | refine jo rfl rfl (index_at rfl rfl rfl rfl rfl rfl rfl rfl (Int.natCast_nonneg k) hkb) rfl rfl ?_)
        rw [hB]
        repeat (first | refine js rfl ?_ | (refine jdraw ?_ ?_; · kernel_rfl) | refine jbu rfl rfl rfl rfl ?_ | refine jo rfl rfl (index_arr rfl rfl rfl rfl rfl hrg.2.1 hrg.2.2) rfl rfl ?_ | refine jo rfl rfl (load_dsem (r := ty3) rfl rfl rfl gb) rfl rfl ?_ | refine jv h2 rfl rfl rfl rfl rfl ?_)
        rw [hd0]
        cases hz : decide (B.length = 0) with
        | false =>
          repeat (first | refine js rfl ?_ | (refine jdraw ?_ ?_; · kernel_rfl) | refine jbu rfl rfl rfl rfl ?_)
          exact jr rfl rfl rfl rfl
        | true =>
          by_cases he : e = 0
          · subst he
            repeat (first | refine js rfl ?_ | (refine jdraw ?_ ?_; · kernel_rfl) | refine jbu rfl rfl rfl rfl ?_ | refine jo rfl rfl (index_arr rfl rfl rfl rfl rfl hrg.1.1 hrg.1.2) rfl rfl ?_ | refine jo rfl rfl (load_dsem (r := ty3) rfl rfl rfl ga) rfl rfl ?_)
            rw [show (v != g0 T.regs a.toNat) = !decide (v = g0 T.regs a.toNat) from rfl]
            exact jr rfl rfl rfl rfl
          · repeat (first | refine js rfl ?_ | (refine jdraw ?_ ?_; · kernel_rfl) | refine jbu rfl rfl rfl rfl ?_)
            rw [show (e != 0) = true from by rw [bne_iff_ne]; exact he]
            rw [decide_eq_false he]
            repeat (first | refine js rfl ?_ | (refine jdraw ?_ ?_; · kernel_rfl) | refine jbu rfl rfl rfl rfl ?_)
            exact jr rfl rfl rfl rfl
      · have e0 : canOp w k T ⟨op, a, b, c⟩ = true := by
          unfold canOp
          simp only
          split <;> first | rfl | (exfalso; omega)
        rw [e0]
        have x17 : (op == 17) = false := by rw [beq_eq_false_iff_ne]; omega
        have x18 : (op == 18) = false := by rw [beq_eq_false_iff_ne]; omega
        have x19 : (op == 19) = false := by rw [beq_eq_false_iff_ne]; omega
        have x20 : (op == 20) = false := by rw [beq_eq_false_iff_ne]; omega
        have x21 : (op == 21) = false := by rw [beq_eq_false_iff_ne]; omega
        have x22 : (op == 22) = false := by rw [beq_eq_false_iff_ne]; omega
        have x23 : (op == 23) = false := by rw [beq_eq_false_iff_ne]; omega
        unfold encWd wCells ivs at *
        refine jcalls Tryz.func78 rfl (by kernel_rfl) Tryz.ntmps78 rfl rfl (fun w0 β0 ext hβ => ?_)
        repeat (first | refine js rfl ?_ | (refine jdraw ?_ ?_; · kernel_rfl) | refine jbu rfl rfl rfl rfl ?_ | refine jo rfl rfl (index_at rfl rfl rfl rfl rfl rfl rfl rfl (Int.natCast_nonneg k) hk1) rfl rfl ?_)
        rw [hT, hs0]
        repeat (first | refine js rfl ?_ | (refine jdraw ?_ ?_; · kernel_rfl) | refine jbu rfl rfl rfl rfl ?_)
        rw [hge]
        repeat (first | refine js rfl ?_ | (refine jdraw ?_ ?_; · kernel_rfl) | refine jbu rfl rfl rfl rfl ?_ | refine jo rfl rfl (index_at rfl rfl rfl rfl rfl rfl rfl rfl hp0 hpc) rfl rfl ?_)
        rw [hi]
        repeat (first | refine js rfl ?_ | (refine jdraw ?_ ?_; · kernel_rfl) | refine jbu rfl rfl rfl rfl ?_ | refine jo rfl rfl (index_at rfl rfl rfl rfl rfl rfl rfl rfl (Int.natCast_nonneg k) hkb) rfl rfl ?_)
        rw [x17]
        repeat (first | refine js rfl ?_ | (refine jdraw ?_ ?_; · kernel_rfl) | refine jbu rfl rfl rfl rfl ?_)
        rw [x18]
        repeat (first | refine js rfl ?_ | (refine jdraw ?_ ?_; · kernel_rfl) | refine jbu rfl rfl rfl rfl ?_)
        rw [x19]
        repeat (first | refine js rfl ?_ | (refine jdraw ?_ ?_; · kernel_rfl) | refine jbu rfl rfl rfl rfl ?_)
        rw [x20]
        repeat (first | refine js rfl ?_ | (refine jdraw ?_ ?_; · kernel_rfl) | refine jbu rfl rfl rfl rfl ?_)
        rw [x21]
        repeat (first | refine js rfl ?_ | (refine jdraw ?_ ?_; · kernel_rfl) | refine jbu rfl rfl rfl rfl ?_)
        rw [x22]
        repeat (first | refine js rfl ?_ | (refine jdraw ?_ ?_; · kernel_rfl) | refine jbu rfl rfl rfl rfl ?_)
        rw [x23]
        repeat (first | refine js rfl ?_ | (refine jdraw ?_ ?_; · kernel_rfl) | refine jbu rfl rfl rfl rfl ?_)
        exact jr rfl rfl rfl rfl
    · rw [instr_end hpc]
      rw [hth] at hpc hst ⊢
      have hge : decide ((at' w.thr (k : Int)).pc ≥ (((w.code.map encIns).length : Nat) : Int)) = true := decide_eq_true (by rw [List.length_map]; omega)
      have hs0 : ((at' w.thr (k : Int)).state != 0) = false := by rw [bne_eq_false_iff_eq]; exact hst
      rw [show (true && canOp w k (at' w.thr (k : Int)) ⟨27, 0, 0, 0⟩) = true from rfl]
      generalize hT : at' w.thr (k : Int) = T at *
      unfold encWd wCells ivs at *
      refine jcalls Tryz.func78 rfl (by kernel_rfl) Tryz.ntmps78 rfl rfl (fun w0 β0 ext hβ => ?_)
      repeat (first | refine js rfl ?_ | (refine jdraw ?_ ?_; · kernel_rfl) | refine jbu rfl rfl rfl rfl ?_ | refine jo rfl rfl (index_at rfl rfl rfl rfl rfl rfl rfl rfl (Int.natCast_nonneg k) hk1) rfl rfl ?_)
      rw [hT, hs0]
      repeat (first | refine js rfl ?_ | (refine jdraw ?_ ?_; · kernel_rfl) | refine jbu rfl rfl rfl rfl ?_)
      rw [hge]
      repeat (first | refine js rfl ?_ | (refine jdraw ?_ ?_; · kernel_rfl) | refine jbu rfl rfl rfl rfl ?_)
      exact jr rfl rfl rfl rfl
  · rw [decide_eq_false hst]
    rw [hth] at hst
    have hs0 : ((at' w.thr (k : Int)).state != 0) = true := by rw [bne_iff_ne]; exact hst
    rw [Bool.false_and]
    generalize hT : at' w.thr (k : Int) = T at *
    unfold encWd wCells ivs at *
    refine jcalls Tryz.func78 rfl (by kernel_rfl) Tryz.ntmps78 rfl rfl (fun w0 β0 ext hβ => ?_)
    repeat (first | refine js rfl ?_ | (refine jdraw ?_ ?_; · kernel_rfl) | refine jbu rfl rfl rfl rfl ?_ | refine jo rfl rfl (index_at rfl rfl rfl rfl rfl rfl rfl rfl (Int.natCast_nonneg k) hk1) rfl rfl ?_)
    rw [hT, hs0]
    repeat (first | refine js rfl ?_ | (refine jdraw ?_ ?_; · kernel_rfl) | refine jbu rfl rfl rfl rfl ?_)
    exact jr rfl rfl rfl rfl
end Go.AL
end
section
set_option maxRecDepth 100000
namespace Go.AL
open Go Go.Proofs
attribute [local irreducible] J
theorem waned_take (l : List Thr) (k : Nat) {q : Nat} (h : q < l.length) : (l.take (q + 1)).map (waned k) = (l.take q).map (waned k) ++ [waned k (at' l (q : Int))] := by
  rw [at_nat l q h, List.take_add_one, List.getElem?_eq_getElem h, List.map_append]
  rfl
theorem rflush_ok (w : Wd) (k : Nat) (h : WdR w) (hk : k < w.thr.length) {p : Wput} {r : List Wput} (hb : bufAt w.tso k = p :: r) : ACalls Tryz.prog 80 [encWd w, iv (k : Int)] [] (one (encWd (flushD w k p r)) []) := by
  have hkb : (k : Int) < w.tso.bufs.length := by rw [← h.len]; omega
  have hkb' : k < w.tso.bufs.length := by omega
  have hk1 : (k : Int) < w.thr.length := by omega
  have hsz := h.tso.sz
  have hl8 : w.thr.length ≤ 8 := by rw [h.len]; omega
  have h1 := rdrop_ok w.tso k h.tso hkb'
  have h2 := rstore_ok w.tso.mem p.loc p.val h.tso.mem
  have h5 := fun e => rfault_ok (popW w k r) k e hk (by show w.thr.length ≤ 1000; omega)
  have hth := thrAt_at hk
  have hthr : ∀ x ∈ w.thr, (x.left.length = 0 ∨ x.left.length = w.thr.length) ∧ ∀ n ∈ x.left, 0 ≤ n ∧ n ≤ 8 := fun x hx => ⟨(h.thr x hx).2, thRight_left (h.thr x hx).1⟩
  have hmem : thrAt w k ∈ w.thr := by rw [hth]; exact at_mem hk
  rw [hb] at h1
  rw [bufAt_at] at hb
  rw [flushD_eq]
  have hf : ∀ e, faultW (popW w k r) k e = setT (popW w k r) k (fltT (thrAt w k) e) := fun e => rfl
  simp only [hf] at h5
  generalize hms : mStore w.tso.mem p.loc p.val = ms at *
  obtain ⟨m', e⟩ := ms
  simp only at *
  generalize hy : cond (decide (e = 0)) (memW (popW w k r) m') (cond (decide ((thrAt w k).state = 2)) (popW w k r) (setT (popW w k r) k (fltT (thrAt w k) e))) = y
  have hyl : y.thr.length = w.thr.length := by
    rw [← hy]
    cases decide (e = 0) with
    | true => rfl
    | false => cases decide ((thrAt w k).state = 2) with
      | true => rfl
      | false => show (w.thr.set k _).length = _; simp
  have hyt : ∀ x ∈ y.thr, (x.left.length = 0 ∨ x.left.length = w.thr.length) ∧ ∀ n ∈ x.left, 0 ≤ n ∧ n ≤ 8 := by
    rw [← hy]
    cases decide (e = 0) with
    | true => exact hthr
    | false => cases decide ((thrAt w k).state = 2) with
      | true => exact hthr
      | false =>
        intro x hx
        have hx : x ∈ w.thr.set k (fltT (thrAt w k) e) := hx
        rcases List.mem_or_eq_of_mem_set hx with hx | rfl
        · exact hthr x hx
        · exact hthr (thrAt w k) hmem
  have h5 := h5 e
  have h0 : (0 : Int) < (p :: r).length := by simp
  have ha : at' (p :: r) 0 = p := rfl
  have hpe : encPut p = .agg [iv p.loc, iv p.val] := rfl
  unfold encTso tCells ivs at h1
  unfold encMem mCells ivs at h2
  have hws : encWd (setT (popW w k r) k (fltT (thrAt w k) e)) = .agg (wCells (setT (popW w k r) k (fltT (thrAt w k) e))) := rfl
  rw [hws] at h5
  unfold wanW
  have hst : ∀ n : Int, ((thrAt w k).state != 2) = !decide ((thrAt w k).state = 2) := fun _ => rfl
  rw [hth] at hst
  rw [hth] at hy h5
  unfold encWd
  refine jcalls Tryz.func80 rfl (by kernel_rfl) Tryz.ntmps80 rfl rfl (fun w0 β0 ext hβ => ?_)
  unfold wCells ivs
  repeat (first | refine js rfl ?_ | (refine jdraw ?_ ?_; · kernel_rfl) | refine jbu rfl rfl rfl rfl ?_ | refine jo rfl rfl (index_at rfl rfl rfl rfl rfl rfl rfl rfl (Int.natCast_nonneg k) hkb) rfl rfl ?_)
  rw [hb]
  repeat (first | refine js rfl ?_ | (refine jdraw ?_ ?_; · kernel_rfl) | refine jbu rfl rfl rfl rfl ?_ | refine jo rfl rfl (index_at (l := p :: r) rfl rfl rfl rfl rfl rfl rfl rfl (Int.le_refl 0) h0) rfl rfl ?_)
  rw [ha, hpe]
  repeat (first | refine js rfl ?_ | (refine jdraw ?_ ?_; · kernel_rfl) | refine jbu rfl rfl rfl rfl ?_ | refine jv h1 rfl rfl rfl rfl rfl ?_ | refine jv h2 rfl rfl rfl rfl rfl ?_)
  refine jmid [1, 2, 4] [iv (k : Int), .ptr 0 0, .ptr 1 0] [.box 33 (wCells y), .box 33 [.slf [], .slf [], .slf [], iv 0, .slf [], .slf [], .slf []], .box 182 [iv p.loc, iv p.val], .box 25 [.sl (m'.words.map iv), .sl (m'.tags.map iv)]] ?_ ?_
  · rw [show (e == 0) = decide (e = 0) from rfl]
    cases he : decide (e = 0) with
    | true =>
      rw [he] at hy
      simp only [cond_true] at hy
      subst hy
      unfold wCells memW popW ivs
      repeat (first | refine js rfl ?_ | (refine jdraw ?_ ?_; · kernel_rfl) | refine jbu rfl rfl rfl rfl ?_)
      exact jmeet rfl rfl
    | false =>
      rw [he] at hy
      simp only [cond_false] at hy
      have hst := hst 0
      cases hs : decide ((at' w.thr (k : Int)).state = 2) with
      | true =>
        rw [hs] at hst hy
        simp only [cond_true] at hy
        subst hy
        unfold wCells popW ivs
        repeat (first | refine js rfl ?_ | (refine jdraw ?_ ?_; · kernel_rfl) | refine jbu rfl rfl rfl rfl ?_ | refine jo rfl rfl (index_at rfl rfl rfl rfl rfl rfl rfl rfl (Int.natCast_nonneg k) hk1) rfl rfl ?_)
        rw [hst]
        repeat (first | refine js rfl ?_ | (refine jdraw ?_ ?_; · kernel_rfl) | refine jbu rfl rfl rfl rfl ?_)
        exact jmeet rfl rfl
      | false =>
        rw [hs] at hst hy
        simp only [cond_false] at hy
        rw [hy] at h5
        unfold encWd popW wCells ivs at h5
        simp only at h5
        unfold wCells ivs
        repeat (first | refine js rfl ?_ | (refine jdraw ?_ ?_; · kernel_rfl) | refine jbu rfl rfl rfl rfl ?_ | refine jo rfl rfl (index_at rfl rfl rfl rfl rfl rfl rfl rfl (Int.natCast_nonneg k) hk1) rfl rfl ?_)
        rw [hst]
        repeat (first | refine js rfl ?_ | (refine jdraw ?_ ?_; · kernel_rfl) | refine jbu rfl rfl rfl rfl ?_ | refine jv h5 rfl rfl rfl rfl rfl ?_)
        exact jmeet rfl rfl
  · clear h5 h1 h2 hy hst hf hws
    unfold wCells ivs
    repeat (first | refine jad 8 87 13 rfl rfl rfl rfl ?_ | refine js rfl ?_ | (refine jdraw ?_ ?_; · kernel_rfl) | refine jbu rfl rfl rfl rfl ?_)
    refine jfin 5 [1, 2, 4, 8, 53, 54, 55] true rfl rfl rfl (by show β0.length ≤ 5; rw [hβ]; exact Nat.zero_le _) ?_
    refine jloop 5 (fun q : Nat => q ≤ y.thr.length) [1, 2, 4, 8, 53, 54, 55] (fun q => [iv (k : Int), .ptr 0 0, .ptr 1 0, .arr 4 (q + 1), .sl (y.thr.map encThr), .v (.int .i64 ((y.thr.map encThr).length : Int)), .v (.int .i64 (q : Int))])
      (fun q => [.box 33 (wCells y), .box 33 w0C, .box 182 [iv p.loc, iv p.val], .box 25 [.sl (m'.words.map iv), .sl (m'.tags.map iv)], .arr (q + 1) 87 13 (((y.thr.take q).map (waned k)).map encThr)]) (fun q => y.thr.length - q) 0 (by show β0.length ≤ 5; rw [hβ]; exact Nat.zero_le _) (Nat.zero_le _) rfl rfl (fun q hq => ?_)
    unfold wCells ivs w0C
    repeat (first | refine js rfl ?_ | (refine jdraw ?_ ?_; · kernel_rfl) | refine jbu rfl rfl rfl rfl ?_)
    refine jc rfl rfl rfl (fun h => ?_) (fun h => ?_)
    · have h := of_decide_eq_true h
      rw [List.length_map] at h
      have hq2 : q < y.thr.length := by omega
      have hidx : IntKind.i64.wrap ((q : Int) + 1) = ((q + 1 : Nat) : Int) := idx_next hq2 (by omega)
      have htk := waned_take y.thr k hq2
      have hln : ((y.thr.take q).map (waned k)).length ≤ 8 := by rw [List.length_map, List.length_take]; omega
      obtain ⟨ht1, ht2⟩ := hyt _ (at_mem hq2)
      have hwn : waned k (at' y.thr (q : Int)) = cond (decide (0 < (at' y.thr (q : Int)).left.length)) { at' y.thr (q : Int) with left := (at' y.thr (q : Int)).left.set k (max (g0 (at' y.thr (q : Int)).left k - 1) 0) } (at' y.thr (q : Int)) := rfl
      have hd : decide (((((at' y.thr (q : Int)).left.map iv).length : Nat) : Int) > 0) = decide (0 < (at' y.thr (q : Int)).left.length) := by rw [List.length_map]; exact decide_eq_decide.2 (by omega)
      generalize hT : at' y.thr (q : Int) = T at *
      generalize (y.thr.take q).map (waned k) = L at *
      repeat (first | refine js rfl ?_ | (refine jdraw ?_ ?_; · kernel_rfl) | refine jbu rfl rfl rfl rfl ?_ | refine jo rfl rfl (index_at rfl rfl rfl rfl rfl rfl rfl rfl (Int.natCast_nonneg q) h) rfl rfl ?_)
      rw [hT, hd]
      cases hz : decide (0 < T.left.length) with
      | false =>
        rw [hz] at hwn
        simp only [cond_false] at hwn
        rw [hwn] at htk
        repeat (first | refine js rfl ?_ | (refine jdraw ?_ ?_; · kernel_rfl) | refine jbu rfl rfl rfl rfl ?_)
        refine jo rfl rfl (append_enc (enc := encThr) (l := L) T rfl rfl rfl rfl rfl rfl rfl rfl rfl rfl (fun x => ⟨rfl, rfl⟩) rfl (by omega) rfl rfl) rfl rfl ?_
        repeat (first | refine js rfl ?_ | (refine jdraw ?_ ?_; · kernel_rfl) | refine jbu rfl rfl rfl rfl ?_)
        refine jnext (q + 1) hq2 (by omega) rfl rfl rfl ?_ ?_
        · rw [hidx]; rfl
        · rw [htk]; rfl
      | true =>
        rw [hz] at hwn
        simp only [cond_true] at hwn
        rw [hwn] at htk
        have hpos := of_decide_eq_true hz
        have hkl : k < T.left.length := by omega
        have hkT : (k : Int) < T.left.length := by omega
        have hg0 : 0 ≤ g0 T.left k ∧ g0 T.left k ≤ 8 := ht2 _ (by unfold g0; rw [List.getD_eq_getElem?_getD, List.getElem?_eq_getElem hkl]; exact List.getElem_mem hkl)
        have hmx : (if IntKind.i64.wrap (at' T.left (k : Int) - 1) > (0 : Int) then IntKind.i64.wrap (at' T.left (k : Int) - 1) else (0 : Int)) = max (g0 T.left k - 1) 0 := by
          rw [show at' T.left (k : Int) = g0 T.left k from rfl]
          rw [wrap_id (by omega) (by omega)]
          split <;> omega
        have hne : (T.left.set k (max (g0 T.left k - 1) 0)).map iv ≠ [] := by
          intro e
          have := congrArg List.length e
          simp at this
          rw [this] at hpos
          simp at hpos
        have hw := rwith_int T.left k (max (g0 T.left k - 1) 0) (by omega)
        refine jc rfl rfl rfl (fun _ => ?_) (fun hf => absurd hf (by decide))
        repeat (first | refine js rfl ?_ | (refine jdraw ?_ ?_; · kernel_rfl) | refine jbu rfl rfl rfl rfl ?_ | refine jo rfl rfl (index_at (l := T.left) rfl rfl rfl rfl rfl rfl rfl rfl (Int.natCast_nonneg k) hkT) rfl rfl ?_)
        rw [hmx]
        refine jw hw rfl rfl rfl rfl rfl rfl ?_
        refine js rfl ?_
        refine js rfl ?_
        refine js rfl ?_
        refine js rfl ?_
        refine jweakB 5 [iv T.pc, iv (g0 T.regs 0), iv (g0 T.regs 1), iv (g0 T.regs 2), iv (g0 T.regs 3), iv (g0 T.regs 4), iv (g0 T.regs 5), iv (g0 T.regs 6), iv (g0 T.regs 7), .sl (T.frames.map encFrm), iv T.state, iv T.fault, .slz ((T.left.set k (max (g0 T.left k - 1) 0)).map iv)] rfl rfl rfl (th_left_rel fun c u h => slz_of hne h) ?_
        repeat (first | refine js rfl ?_ | (refine jdraw ?_ ?_; · kernel_rfl) | refine jbu rfl rfl rfl rfl ?_)
        refine jo rfl rfl (append_enc (enc := encThr) (l := L) { T with left := T.left.set k (max (g0 T.left k - 1) 0) } rfl rfl rfl rfl rfl rfl rfl rfl rfl rfl (fun x => ⟨rfl, rfl⟩) rfl (by omega) rfl rfl) rfl rfl ?_
        repeat (first | refine js rfl ?_ | (refine jdraw ?_ ?_; · kernel_rfl) | refine jbu rfl rfl rfl rfl ?_)
        refine jnext (q + 1) hq2 (by omega) rfl rfl rfl ?_ ?_
        · rw [hidx]; rfl
        · rw [htk]; rfl
    · have h := of_decide_eq_false h
      rw [List.length_map] at h
      have : q = y.thr.length := by omega
      subst this
      rw [List.take_length]
      refine jpub 8 rfl rfl rfl rfl ?_
      repeat (first | refine js rfl ?_ | (refine jdraw ?_ ?_; · kernel_rfl) | refine jbu rfl rfl rfl rfl ?_)
      exact jr rfl rfl rfl rfl
end Go.AL
end
section
set_option maxRecDepth 100000
namespace Go.AL
open Go Go.Proofs
attribute [local irreducible] J
theorem act_out {w : Wd} {a : Act} (h : WdR w) (hk : inT w a.who = false) : actW w a = (w, false) := by
  unfold actW stepW flushW
  rw [wRight_iff.2 h, hk]
  split <;> rfl
theorem act_step {w : Wd} {k : Nat} (h : WdR w) (hk : k < w.thr.length) : actW w ⟨0, k⟩ = cond (canW w k) (doW w k, true) (w, false) := by
  show cond (decide ((stepW w k).2 = 0)) ((stepW w k).1, true) (w, false) = _
  have hi : inT w (k : Int) = true := inn_iff.2 ⟨by omega, by omega⟩
  unfold stepW
  rw [wRight_iff.2 h, hi, Int.toNat_natCast]
  cases canW w k <;> rfl
theorem act_flush {w : Wd} {k : Nat} (h : WdR w) (hk : k < w.thr.length) : actW w ⟨1, k⟩ = match bufAt w.tso k with | [] => (w, false) | p :: r => (flushD w k p r, true) := by
  show cond (decide ((flushW w k).2 = 0)) ((flushW w k).1, true) (w, false) = _
  have hi : inT w (k : Int) = true := inn_iff.2 ⟨by omega, by omega⟩
  unfold flushW
  rw [wRight_iff.2 h, hi, Int.toNat_natCast]
  cases bufAt w.tso k <;> rfl
theorem act_other {w : Wd} {a : Act} (h0 : a.kind ≠ 0) (h1 : a.kind ≠ 1) : actW w a = (w, false) := by
  unfold actW
  split
  · rename_i e; exact absurd e h0
  · rename_i e; exact absurd e h1
  · rfl
theorem rhas_ok (w : Wd) (k : Int) : ACalls Tryz.prog 77 [encWd w, iv k] [] (one (bv (inT w k)) []) := by
  unfold encWd wCells ivs
  refine jcalls Tryz.func77 rfl (by kernel_rfl) Tryz.ntmps77 rfl rfl (fun w0 β0 ext hβ => ?_)
  repeat (first | refine js rfl ?_ | (refine jdraw ?_ ?_; · kernel_rfl) | refine jbu rfl rfl rfl rfl ?_)
  by_cases h : k ≥ 0
  · rw [decide_eq_true h]
    repeat (first | refine js rfl ?_ | (refine jdraw ?_ ?_; · kernel_rfl) | refine jbu rfl rfl rfl rfl ?_)
    have e : decide (k < (((w.thr.map encThr).length : Nat) : Int)) = inT w k := by
      unfold inT inn
      rw [decide_eq_true (show 0 ≤ k from h), Bool.true_and, List.length_map]
      exact decide_eq_decide.2 (by omega)
    rw [e]
    exact jr rfl rfl rfl rfl
  · rw [decide_eq_false h]
    repeat (first | refine js rfl ?_ | (refine jdraw ?_ ?_; · kernel_rfl) | refine jbu rfl rfl rfl rfl ?_)
    have e : inT w k = false := by unfold inT inn; rw [decide_eq_false (show ¬ 0 ≤ k from h)]; rfl
    rw [e]
    exact jr rfl rfl rfl rfl
theorem rdone_ok (w : Wd) (a : Act) (h : WdR w) : ACalls Tryz.prog 45 [encWd w, encAct a] [] (one (bv (actW w a).2) []) := by
  have h1 := rhas_ok w a.who
  cases hk : inT w a.who with
  | false =>
    rw [act_out h hk]
    rw [hk] at h1
    unfold encWd wCells ivs encAct at *
    refine jcalls Tryz.func45 rfl (by kernel_rfl) Tryz.ntmps45 rfl rfl (fun w0 β0 ext hβ => ?_)
    repeat (first | refine js rfl ?_ | (refine jdraw ?_ ?_; · kernel_rfl) | refine jbu rfl rfl rfl rfl ?_ | refine jv h1 rfl rfl rfl rfl rfl ?_)
    exact jr rfl rfl rfl rfl
  | true =>
    rw [hk] at h1
    obtain ⟨kd, who⟩ := a
    obtain ⟨q, e, hq⟩ := inT_nat hk
    simp only at e
    subst e
    have hqb : (q : Int) < w.tso.bufs.length := by rw [← h.len]; omega
    have h2 := rcan_ok w q h hq
    unfold encWd wCells ivs encAct at *
    simp only at *
    by_cases h0 : kd = 0
    · subst h0
      rw [act_step h hq]
      cases hc : canW w q
      all_goals (
        rw [hc] at h2
        refine jcalls Tryz.func45 rfl (by kernel_rfl) Tryz.ntmps45 rfl rfl (fun w0 β0 ext hβ => ?_)
        repeat (first | refine js rfl ?_ | (refine jdraw ?_ ?_; · kernel_rfl) | refine jbu rfl rfl rfl rfl ?_ | refine jv h1 rfl rfl rfl rfl rfl ?_ | refine jv h2 rfl rfl rfl rfl rfl ?_)
      )
      all_goals exact jr rfl rfl rfl rfl
    · have e0 : (kd == 0) = false := by rw [beq_eq_false_iff_ne]; exact h0
      by_cases h1' : kd = 1
      · subst h1'
        rw [act_flush h hq]
        have hbl : bufAt w.tso q = at' w.tso.bufs (q : Int) := rfl
        cases hb : bufAt w.tso q with
        | nil =>
          rw [hb] at hbl
          refine jcalls Tryz.func45 rfl (by kernel_rfl) Tryz.ntmps45 rfl rfl (fun w0 β0 ext hβ => ?_)
          repeat (first | refine js rfl ?_ | (refine jdraw ?_ ?_; · kernel_rfl) | refine jbu rfl rfl rfl rfl ?_ | refine jv h1 rfl rfl rfl rfl rfl ?_ | refine jo rfl rfl (index_at rfl rfl rfl rfl rfl rfl rfl rfl (Int.natCast_nonneg q) hqb) rfl rfl ?_)
          rw [← hbl]
          repeat (first | refine js rfl ?_ | (refine jdraw ?_ ?_; · kernel_rfl) | refine jbu rfl rfl rfl rfl ?_)
          exact jr rfl rfl rfl rfl
        | cons p r =>
          rw [hb] at hbl
          have hl : decide ((((((p :: r : List Wput)).map encPut).length : Nat) : Int) > 0) = true := decide_eq_true (by simp)
          refine jcalls Tryz.func45 rfl (by kernel_rfl) Tryz.ntmps45 rfl rfl (fun w0 β0 ext hβ => ?_)
          repeat (first | refine js rfl ?_ | (refine jdraw ?_ ?_; · kernel_rfl) | refine jbu rfl rfl rfl rfl ?_ | refine jv h1 rfl rfl rfl rfl rfl ?_ | refine jo rfl rfl (index_at rfl rfl rfl rfl rfl rfl rfl rfl (Int.natCast_nonneg q) hqb) rfl rfl ?_)
          rw [← hbl]
          repeat (first | refine js rfl ?_ | (refine jdraw ?_ ?_; · kernel_rfl) | refine jbu rfl rfl rfl rfl ?_)
          rw [hl]
          repeat (first | refine js rfl ?_ | (refine jdraw ?_ ?_; · kernel_rfl) | refine jbu rfl rfl rfl rfl ?_)
          exact jr rfl rfl rfl rfl
      · have e1 : (kd == 1) = false := by rw [beq_eq_false_iff_ne]; exact h1'
        rw [act_other (a := ⟨kd, q⟩) h0 h1']
        refine jcalls Tryz.func45 rfl (by kernel_rfl) Tryz.ntmps45 rfl rfl (fun w0 β0 ext hβ => ?_)
        repeat (first | refine js rfl ?_ | (refine jdraw ?_ ?_; · kernel_rfl) | refine jbu rfl rfl rfl rfl ?_ | refine jv h1 rfl rfl rfl rfl rfl ?_)
        rw [e0]
        repeat (first | refine js rfl ?_ | (refine jdraw ?_ ?_; · kernel_rfl) | refine jbu rfl rfl rfl rfl ?_)
        rw [e1]
        repeat (first | refine js rfl ?_ | (refine jdraw ?_ ?_; · kernel_rfl) | refine jbu rfl rfl rfl rfl ?_)
        exact jr rfl rfl rfl rfl
theorem act_same {w : Wd} {a : Act} (h : WdR w) (hd : (actW w a).2 = false) : (actW w a).1 = w := by
  cases hk : inT w a.who with
  | false => rw [act_out h hk]
  | true =>
    obtain ⟨kd, who⟩ := a
    obtain ⟨q, e, hq⟩ := inT_nat hk
    simp only at e
    subst e
    by_cases h0 : kd = 0
    · subst h0
      rw [act_step h hq] at *
      cases hc : canW w q with
      | false => rfl
      | true => rw [hc] at hd; cases hd
    · by_cases h1' : kd = 1
      · subst h1'
        rw [act_flush h hq] at *
        cases hb : bufAt w.tso q with
        | nil => rfl
        | cons p r => rw [hb] at hd; cases hd
      · rw [act_other (a := ⟨kd, q⟩) h0 h1']
theorem rdo_ok (w : Wd) (a : Act) (h : WdR w) (hev : w.evs.length ≤ 900000) : ACalls Tryz.prog 46 [encWd w, encAct a] [] (one (encWd (actW w a).1) []) := by
  have h1 := rdone_ok w a h
  cases hd : (actW w a).2 with
  | false =>
    have e := act_same h hd
    rw [e]
    rw [hd] at h1
    unfold encWd wCells ivs encAct at *
    refine jcalls Tryz.func46 rfl (by kernel_rfl) Tryz.ntmps46 rfl rfl (fun w0 β0 ext hβ => ?_)
    repeat (first | refine js rfl ?_ | (refine jdraw ?_ ?_; · kernel_rfl) | refine jbu rfl rfl rfl rfl ?_ | refine jv h1 rfl rfl rfl rfl rfl ?_)
    exact jr rfl rfl rfl rfl
  | true =>
    rw [hd] at h1
    cases hk : inT w a.who with
    | false => rw [act_out h hk] at hd; cases hd
    | true =>
      obtain ⟨kd, who⟩ := a
      obtain ⟨q, e, hq⟩ := inT_nat hk
      simp only at e
      subst e
      by_cases h0 : kd = 0
      · subst h0
        rw [act_step h hq] at *
        cases hc : canW w q with
        | false => rw [hc] at hd; cases hd
        | true =>
          have h2 := rstep_ok w q h hq hc hev
          simp only [cond_true]
          generalize doW w q = w1 at *
          unfold encWd wCells ivs encAct at *
          refine jcalls Tryz.func46 rfl (by kernel_rfl) Tryz.ntmps46 rfl rfl (fun w0 β0 ext hβ => ?_)
          repeat (first | refine js rfl ?_ | (refine jdraw ?_ ?_; · kernel_rfl) | refine jbu rfl rfl rfl rfl ?_ | refine jv h1 rfl rfl rfl rfl rfl ?_ | refine jv h2 rfl rfl rfl rfl rfl ?_)
          exact jr rfl rfl rfl rfl
      · by_cases h1' : kd = 1
        · subst h1'
          rw [act_flush h hq] at *
          cases hb : bufAt w.tso q with
          | nil => rw [hb] at hd; cases hd
          | cons p r =>
            have h2 := rflush_ok w q h hq hb
            simp only
            generalize flushD w q p r = w1 at *
            unfold encWd wCells ivs encAct at *
            refine jcalls Tryz.func46 rfl (by kernel_rfl) Tryz.ntmps46 rfl rfl (fun w0 β0 ext hβ => ?_)
            repeat (first | refine js rfl ?_ | (refine jdraw ?_ ?_; · kernel_rfl) | refine jbu rfl rfl rfl rfl ?_ | refine jv h1 rfl rfl rfl rfl rfl ?_ | refine jv h2 rfl rfl rfl rfl rfl ?_)
            exact jr rfl rfl rfl rfl
        · rw [act_other (a := ⟨kd, q⟩) h0 h1'] at hd; cases hd
end Go.AL
end
section
set_option maxRecDepth 100000
namespace Go.AL
open Go Go.Proofs
attribute [local irreducible] J
theorem rsame_ints (l : List (Int)) (hl : l.length ≤ 1000000) : ACalls Tryz.prog 67 [.sl (l.map iv), .sl (l.map iv)] [] (one (bv true) []) := by
  refine jcalls Tryz.func67 rfl (by kernel_rfl) Tryz.ntmps67 rfl rfl (fun w0 β0 ext hβ => ?_)
  repeat (first | refine js rfl ?_ | (refine jdraw ?_ ?_; · kernel_rfl) | refine jbu rfl rfl rfl rfl ?_)
  refine jc rfl rfl rfl (fun h => absurd h (by simp)) (fun h => ?_)
  repeat (first | refine js rfl ?_ | (refine jdraw ?_ ?_; · kernel_rfl) | refine jbu rfl rfl rfl rfl ?_)
  refine jloopI (fun i : Nat => i ≤ l.length) [0, 1, 12, 13] (fun i => [.sl (l.map iv), .sl (l.map iv), .v (.int .i64 ((l.map iv).length : Int)), .v (.int .i64 (i : Int))]) (fun _ => []) (fun i => l.length - i) 0 (Nat.zero_le _) rfl rfl (fun i hi => ?_)
  repeat (first | refine js rfl ?_ | (refine jdraw ?_ ?_; · kernel_rfl) | refine jbu rfl rfl rfl rfl ?_)
  refine jc rfl rfl rfl (fun h => ?_) (fun h => ?_)
  · have h := of_decide_eq_true h
    rw [List.length_map] at h
    have hi1 : i < l.length := by omega
    have w1 := idx_next hi1 (by omega)
    repeat (first | refine js rfl ?_ | (refine jdraw ?_ ?_; · kernel_rfl) | refine jbu rfl rfl rfl rfl ?_ | refine jo rfl rfl (index_at rfl rfl rfl rfl rfl rfl rfl rfl (Int.natCast_nonneg i) h) rfl rfl ?_)
    refine jc rfl rfl rfl (fun h => absurd h (by simp)) (fun h => ?_)
    repeat (first | refine js rfl ?_ | (refine jdraw ?_ ?_; · kernel_rfl) | refine jbu rfl rfl rfl rfl ?_)
    refine jnextI (i + 1) hi1 ?_ rfl (by omega)
    show some _ = some _
    rw [w1]
  · repeat (first | refine js rfl ?_ | (refine jdraw ?_ ?_; · kernel_rfl) | refine jbu rfl rfl rfl rfl ?_)
    exact jr rfl rfl rfl rfl
theorem rsame_puts (l : List (Wput)) (hl : l.length ≤ 1000000) : ACalls Tryz.prog 69 [.sl (l.map encPut), .sl (l.map encPut)] [] (one (bv true) []) := by
  refine jcalls Tryz.func69 rfl (by kernel_rfl) Tryz.ntmps69 rfl rfl (fun w0 β0 ext hβ => ?_)
  repeat (first | refine js rfl ?_ | (refine jdraw ?_ ?_; · kernel_rfl) | refine jbu rfl rfl rfl rfl ?_)
  refine jc rfl rfl rfl (fun h => absurd h (by simp)) (fun h => ?_)
  repeat (first | refine js rfl ?_ | (refine jdraw ?_ ?_; · kernel_rfl) | refine jbu rfl rfl rfl rfl ?_)
  refine jloopI (fun i : Nat => i ≤ l.length) [0, 1, 12, 13] (fun i => [.sl (l.map encPut), .sl (l.map encPut), .v (.int .i64 ((l.map encPut).length : Int)), .v (.int .i64 (i : Int))]) (fun _ => []) (fun i => l.length - i) 0 (Nat.zero_le _) rfl rfl (fun i hi => ?_)
  repeat (first | refine js rfl ?_ | (refine jdraw ?_ ?_; · kernel_rfl) | refine jbu rfl rfl rfl rfl ?_)
  refine jc rfl rfl rfl (fun h => ?_) (fun h => ?_)
  · have h := of_decide_eq_true h
    rw [List.length_map] at h
    have hi1 : i < l.length := by omega
    have w1 := idx_next hi1 (by omega)
    have hx : encPut (at' l (i : Int)) = .agg (intsA [(at' l (i : Int)).loc, (at' l (i : Int)).val]) := rfl
    repeat (first | refine js rfl ?_ | (refine jdraw ?_ ?_; · kernel_rfl) | refine jbu rfl rfl rfl rfl ?_ | refine jo rfl rfl (index_at rfl rfl rfl rfl rfl rfl rfl rfl (Int.natCast_nonneg i) h) rfl rfl ?_ | refine jo rfl rfl (eq_intsR (xs := [(at' l (i : Int)).loc, (at' l (i : Int)).val]) (ys := [(at' l (i : Int)).loc, (at' l (i : Int)).val]) (Or.inr rfl) rfl rfl rfl rfl rfl rfl (by kernel_rfl) (by kernel_rfl)) rfl rfl ?_)
    refine jc rfl rfl rfl (fun h => absurd h (by simp)) (fun h => ?_)
    repeat (first | refine js rfl ?_ | (refine jdraw ?_ ?_; · kernel_rfl) | refine jbu rfl rfl rfl rfl ?_)
    refine jnextI (i + 1) hi1 ?_ rfl (by omega)
    show some _ = some _
    rw [w1]
  · repeat (first | refine js rfl ?_ | (refine jdraw ?_ ?_; · kernel_rfl) | refine jbu rfl rfl rfl rfl ?_)
    exact jr rfl rfl rfl rfl
theorem rsame_evts (l : List (Evt)) (hl : l.length ≤ 1000000) : ACalls Tryz.prog 37 [.sl (l.map encEvt), .sl (l.map encEvt)] [] (one (bv true) []) := by
  refine jcalls Tryz.func37 rfl (by kernel_rfl) Tryz.ntmps37 rfl rfl (fun w0 β0 ext hβ => ?_)
  repeat (first | refine js rfl ?_ | (refine jdraw ?_ ?_; · kernel_rfl) | refine jbu rfl rfl rfl rfl ?_)
  refine jc rfl rfl rfl (fun h => absurd h (by simp)) (fun h => ?_)
  repeat (first | refine js rfl ?_ | (refine jdraw ?_ ?_; · kernel_rfl) | refine jbu rfl rfl rfl rfl ?_)
  refine jloopI (fun i : Nat => i ≤ l.length) [0, 1, 12, 13] (fun i => [.sl (l.map encEvt), .sl (l.map encEvt), .v (.int .i64 ((l.map encEvt).length : Int)), .v (.int .i64 (i : Int))]) (fun _ => []) (fun i => l.length - i) 0 (Nat.zero_le _) rfl rfl (fun i hi => ?_)
  repeat (first | refine js rfl ?_ | (refine jdraw ?_ ?_; · kernel_rfl) | refine jbu rfl rfl rfl rfl ?_)
  refine jc rfl rfl rfl (fun h => ?_) (fun h => ?_)
  · have h := of_decide_eq_true h
    rw [List.length_map] at h
    have hi1 : i < l.length := by omega
    have w1 := idx_next hi1 (by omega)
    have hx : encEvt (at' l (i : Int)) = .agg (intsA [(at' l (i : Int)).kind, (at' l (i : Int)).who, (g0 (at' l (i : Int)).words 0), (g0 (at' l (i : Int)).words 1), (g0 (at' l (i : Int)).words 2), (g0 (at' l (i : Int)).words 3)]) := rfl
    repeat (first | refine js rfl ?_ | (refine jdraw ?_ ?_; · kernel_rfl) | refine jbu rfl rfl rfl rfl ?_ | refine jo rfl rfl (index_at rfl rfl rfl rfl rfl rfl rfl rfl (Int.natCast_nonneg i) h) rfl rfl ?_ | refine jo rfl rfl (eq_intsR (xs := [(at' l (i : Int)).kind, (at' l (i : Int)).who, (g0 (at' l (i : Int)).words 0), (g0 (at' l (i : Int)).words 1), (g0 (at' l (i : Int)).words 2), (g0 (at' l (i : Int)).words 3)]) (ys := [(at' l (i : Int)).kind, (at' l (i : Int)).who, (g0 (at' l (i : Int)).words 0), (g0 (at' l (i : Int)).words 1), (g0 (at' l (i : Int)).words 2), (g0 (at' l (i : Int)).words 3)]) (Or.inr rfl) rfl rfl rfl rfl rfl rfl (by kernel_rfl) (by kernel_rfl)) rfl rfl ?_)
    refine jc rfl rfl rfl (fun h => absurd h (by simp)) (fun h => ?_)
    repeat (first | refine js rfl ?_ | (refine jdraw ?_ ?_; · kernel_rfl) | refine jbu rfl rfl rfl rfl ?_)
    refine jnextI (i + 1) hi1 ?_ rfl (by omega)
    show some _ = some _
    rw [w1]
  · repeat (first | refine js rfl ?_ | (refine jdraw ?_ ?_; · kernel_rfl) | refine jbu rfl rfl rfl rfl ?_)
    exact jr rfl rfl rfl rfl
theorem rsame_mem (m : Mem) (h1 : m.words.length ≤ 1000000) (h2 : m.tags.length ≤ 1000000) : ACalls Tryz.prog 68 [encMem m, encMem m] [] (one (bv true) []) := by
  have h1 := rsame_ints m.words h1
  have h2 := rsame_ints m.tags h2
  unfold encMem mCells ivs at *
  refine jcalls Tryz.func68 rfl (by kernel_rfl) Tryz.ntmps68 rfl rfl (fun w0 β0 ext hβ => ?_)
  repeat (first | refine js rfl ?_ | (refine jdraw ?_ ?_; · kernel_rfl) | refine jbu rfl rfl rfl rfl ?_ | refine jv h1 rfl rfl rfl rfl rfl ?_ | refine jv h2 rfl rfl rfl rfl rfl ?_)
  exact jr rfl rfl rfl rfl
theorem rsame_tso (t : Tso) (h : TsSz t) : ACalls Tryz.prog 36 [encTso t, encTso t] [] (one (bv true) []) := by
  have h1 := rsame_mem t.mem h.words h.tags
  have h2 := fun b hb => rsame_puts b (h.puts b hb)
  have hbl := h.bufs
  unfold encMem mCells ivs at h1
  unfold encTso tCells ivs at *
  refine jcalls Tryz.func36 rfl (by kernel_rfl) Tryz.ntmps36 rfl rfl (fun w0 β0 ext hβ => ?_)
  repeat (first | refine js rfl ?_ | (refine jdraw ?_ ?_; · kernel_rfl) | refine jbu rfl rfl rfl rfl ?_ | refine jv h1 rfl rfl rfl rfl rfl ?_)
  rw [show (t.depth != t.depth) = false from by simp]
  repeat (first | refine js rfl ?_ | (refine jdraw ?_ ?_; · kernel_rfl) | refine jbu rfl rfl rfl rfl ?_)
  refine jc rfl rfl rfl (fun h => absurd h (by simp)) (fun h => ?_)
  repeat (first | refine js rfl ?_ | (refine jdraw ?_ ?_; · kernel_rfl) | refine jbu rfl rfl rfl rfl ?_)
  refine jloopI (fun i : Nat => i ≤ t.bufs.length) [2, 3, 30, 31] (fun i => [.ptr 0 0, .ptr 1 0, .v (.int .i64 ((t.bufs.map encBuf).length : Int)), .v (.int .i64 (i : Int))]) (fun _ => _) (fun i => t.bufs.length - i) 0 (Nat.zero_le _) rfl rfl (fun i hi => ?_)
  repeat (first | refine js rfl ?_ | (refine jdraw ?_ ?_; · kernel_rfl) | refine jbu rfl rfl rfl rfl ?_)
  refine jc rfl rfl rfl (fun h => ?_) (fun h => ?_)
  · have h := of_decide_eq_true h
    rw [List.length_map] at h
    have hi1 : i < t.bufs.length := by omega
    have w1 := idx_next hi1 (by omega)
    have h2 := h2 _ (at_mem hi1)
    repeat (first | refine js rfl ?_ | (refine jdraw ?_ ?_; · kernel_rfl) | refine jbu rfl rfl rfl rfl ?_ | refine jo rfl rfl (index_at rfl rfl rfl rfl rfl rfl rfl rfl (Int.natCast_nonneg i) h) rfl rfl ?_ | refine jv h2 rfl rfl rfl rfl rfl ?_)
    refine jnextI (i + 1) hi1 ?_ rfl (by omega)
    show some _ = some _
    rw [w1]
  · repeat (first | refine js rfl ?_ | (refine jdraw ?_ ?_; · kernel_rfl) | refine jbu rfl rfl rfl rfl ?_)
    exact jr rfl rfl rfl rfl
theorem rsame_thr (t : Thr) (h1 : t.frames.length ≤ 1000000) (h2 : t.left.length ≤ 1000000) : ACalls Tryz.prog 34 [encThr t, encThr t] [] (one (bv true) []) := by
  have hli := rsame_ints t.left h2
  rw [encThr_agg]
  refine jcalls Tryz.func34 rfl (by kernel_rfl) Tryz.ntmps34 rfl rfl (fun w0 β0 ext hβ => ?_)
  repeat (first | refine js rfl ?_ | (refine jdraw ?_ ?_; · kernel_rfl) | refine jbu rfl rfl rfl rfl ?_)
  rw [show (t.pc != t.pc) = false from by simp]
  repeat (first | refine js rfl ?_ | (refine jdraw ?_ ?_; · kernel_rfl) | refine jbu rfl rfl rfl rfl ?_ | refine jo rfl rfl (eq_intsR (xs := [g0 t.regs 0, g0 t.regs 1, g0 t.regs 2, g0 t.regs 3, g0 t.regs 4, g0 t.regs 5, g0 t.regs 6, g0 t.regs 7]) (ys := [g0 t.regs 0, g0 t.regs 1, g0 t.regs 2, g0 t.regs 3, g0 t.regs 4, g0 t.regs 5, g0 t.regs 6, g0 t.regs 7]) (Or.inr rfl) rfl rfl rfl rfl rfl rfl (by kernel_rfl) (by kernel_rfl)) rfl rfl ?_)
  rw [show (if (BinOp.neq = BinOp.eql) then decide ([g0 t.regs 0, g0 t.regs 1, g0 t.regs 2, g0 t.regs 3, g0 t.regs 4, g0 t.regs 5, g0 t.regs 6, g0 t.regs 7] = [g0 t.regs 0, g0 t.regs 1, g0 t.regs 2, g0 t.regs 3, g0 t.regs 4, g0 t.regs 5, g0 t.regs 6, g0 t.regs 7]) else !decide ([g0 t.regs 0, g0 t.regs 1, g0 t.regs 2, g0 t.regs 3, g0 t.regs 4, g0 t.regs 5, g0 t.regs 6, g0 t.regs 7] = [g0 t.regs 0, g0 t.regs 1, g0 t.regs 2, g0 t.regs 3, g0 t.regs 4, g0 t.regs 5, g0 t.regs 6, g0 t.regs 7])) = false from by simp]
  repeat (first | refine js rfl ?_ | (refine jdraw ?_ ?_; · kernel_rfl) | refine jbu rfl rfl rfl rfl ?_)
  rw [show (t.state != t.state) = false from by simp]
  repeat (first | refine js rfl ?_ | (refine jdraw ?_ ?_; · kernel_rfl) | refine jbu rfl rfl rfl rfl ?_)
  rw [show (t.fault != t.fault) = false from by simp]
  repeat (first | refine js rfl ?_ | (refine jdraw ?_ ?_; · kernel_rfl) | refine jbu rfl rfl rfl rfl ?_)
  refine jc rfl rfl rfl (fun h => absurd h (by simp)) (fun h => ?_)
  repeat (first | refine js rfl ?_ | (refine jdraw ?_ ?_; · kernel_rfl) | refine jbu rfl rfl rfl rfl ?_)
  refine jloopI (fun i : Nat => i ≤ t.frames.length) [2, 3, 43, 44] (fun i => [.ptr 0 0, .ptr 1 0, .v (.int .i64 ((t.frames.map encFrm).length : Int)), .v (.int .i64 (i : Int))]) (fun _ => _) (fun i => t.frames.length - i) 0 (Nat.zero_le _) rfl rfl (fun i hi => ?_)
  repeat (first | refine js rfl ?_ | (refine jdraw ?_ ?_; · kernel_rfl) | refine jbu rfl rfl rfl rfl ?_)
  refine jc rfl rfl rfl (fun h => ?_) (fun h => ?_)
  · have h := of_decide_eq_true h
    rw [List.length_map] at h
    have hi1 : i < t.frames.length := by omega
    have w1 := idx_next hi1 (by omega)
    have hx : encFrm (at' t.frames (i : Int)) = .agg (intsA [(at' t.frames (i : Int)).back, g0 (at' t.frames (i : Int)).kept 0, g0 (at' t.frames (i : Int)).kept 1, g0 (at' t.frames (i : Int)).kept 2, g0 (at' t.frames (i : Int)).kept 3]) := rfl
    repeat (first | refine js rfl ?_ | (refine jdraw ?_ ?_; · kernel_rfl) | refine jbu rfl rfl rfl rfl ?_ | refine jo rfl rfl (index_at rfl rfl rfl rfl rfl rfl rfl rfl (Int.natCast_nonneg i) h) rfl rfl ?_ | refine jo rfl rfl (eq_intsR (xs := [(at' t.frames (i : Int)).back, g0 (at' t.frames (i : Int)).kept 0, g0 (at' t.frames (i : Int)).kept 1, g0 (at' t.frames (i : Int)).kept 2, g0 (at' t.frames (i : Int)).kept 3]) (ys := [(at' t.frames (i : Int)).back, g0 (at' t.frames (i : Int)).kept 0, g0 (at' t.frames (i : Int)).kept 1, g0 (at' t.frames (i : Int)).kept 2, g0 (at' t.frames (i : Int)).kept 3]) (Or.inr rfl) rfl rfl rfl rfl rfl rfl (by kernel_rfl) (by kernel_rfl)) rfl rfl ?_)
    refine jc rfl rfl rfl (fun h => absurd h (by simp)) (fun h => ?_)
    repeat (first | refine js rfl ?_ | (refine jdraw ?_ ?_; · kernel_rfl) | refine jbu rfl rfl rfl rfl ?_)
    refine jnextI (i + 1) hi1 ?_ rfl (by omega)
    show some _ = some _
    rw [w1]
  · repeat (first | refine js rfl ?_ | (refine jdraw ?_ ?_; · kernel_rfl) | refine jbu rfl rfl rfl rfl ?_ | refine jw hli rfl rfl rfl rfl rfl rfl ?_)
    exact jr rfl rfl rfl rfl
structure WdS (w : Wd) : Prop where
  sz : WdSz w
  evs : w.evs.length ≤ 1000000
theorem rsame_ok (w : Wd) (h : WdSz w) (he : w.evs.length ≤ 1000000) : ACalls Tryz.prog 13 [encWd w, encWd w] [] (one (bv true) []) := by
  have h1 := same_ok w.code h.code
  have h2 := rsame_tso w.tso h.tso
  have h3 := fun t ht => rsame_thr t (h.each t ht).1 (h.each t ht).2
  have h4 := rsame_evts w.evs he
  have hl := h.thr
  unfold encIs at h1
  unfold encTso tCells ivs at h2
  unfold encWd wCells ivs at *
  refine jcalls Tryz.func13 rfl (by kernel_rfl) Tryz.ntmps13 rfl rfl (fun w0 β0 ext hβ => ?_)
  repeat (first | refine js rfl ?_ | (refine jdraw ?_ ?_; · kernel_rfl) | refine jbu rfl rfl rfl rfl ?_)
  refine jc rfl rfl rfl (fun h => absurd h (by simp)) (fun h => ?_)
  repeat (first | refine js rfl ?_ | (refine jdraw ?_ ?_; · kernel_rfl) | refine jbu rfl rfl rfl rfl ?_)
  refine jloopI (fun i : Nat => i ≤ w.thr.length) [2, 3, 15, 16] (fun i => [.ptr 0 0, .ptr 1 0, .v (.int .i64 ((w.thr.map encThr).length : Int)), .v (.int .i64 (i : Int))]) (fun _ => _) (fun i => w.thr.length - i) 0 (Nat.zero_le _) rfl rfl (fun i hi => ?_)
  repeat (first | refine js rfl ?_ | (refine jdraw ?_ ?_; · kernel_rfl) | refine jbu rfl rfl rfl rfl ?_)
  refine jc rfl rfl rfl (fun h => ?_) (fun h => ?_)
  · have h := of_decide_eq_true h
    rw [List.length_map] at h
    have hi1 : i < w.thr.length := by omega
    have w1 := idx_next hi1 (by omega)
    have h3 := h3 _ (at_mem hi1)
    repeat (first | refine js rfl ?_ | (refine jdraw ?_ ?_; · kernel_rfl) | refine jbu rfl rfl rfl rfl ?_ | refine jo rfl rfl (index_at rfl rfl rfl rfl rfl rfl rfl rfl (Int.natCast_nonneg i) h) rfl rfl ?_ | refine jv h3 rfl rfl rfl rfl rfl ?_)
    refine jnextI (i + 1) hi1 ?_ rfl (by omega)
    show some _ = some _
    rw [w1]
  · repeat (first | refine js rfl ?_ | (refine jdraw ?_ ?_; · kernel_rfl) | refine jbu rfl rfl rfl rfl ?_ | refine jv h1 rfl rfl rfl rfl rfl ?_ | refine jv h2 rfl rfl rfl rfl rfl ?_ | refine jv h4 rfl rfl rfl rfl rfl ?_)
    exact jr rfl rfl rfl rfl
end Go.AL
end
section
set_option maxRecDepth 100000
namespace Go.AL
open Go Go.Proofs
attribute [local irreducible] J
def val3 (a b c : Int) : Nat → Int
  | 0 => a
  | 1 => b
  | _ => c
theorem operand_ok (op a b c : Int) (q : Nat) : ACalls Tryz.prog 107 [.agg [iv op, iv a, iv b, iv c], iv q] [] (one (iv (val3 a b c q)) []) := by
  match q with
  | 0 =>
    refine jcalls Tryz.func107 rfl (by kernel_rfl) Tryz.ntmps107 rfl rfl (fun w0 β0 ext hβ => ?_)
    repeat (first | refine js rfl ?_ | (refine jdraw ?_ ?_; · kernel_rfl) | refine jbu rfl rfl rfl rfl ?_)
    exact jr rfl rfl rfl rfl
  | 1 =>
    refine jcalls Tryz.func107 rfl (by kernel_rfl) Tryz.ntmps107 rfl rfl (fun w0 β0 ext hβ => ?_)
    repeat (first | refine js rfl ?_ | (refine jdraw ?_ ?_; · kernel_rfl) | refine jbu rfl rfl rfl rfl ?_)
    exact jr rfl rfl rfl rfl
  | q + 2 =>
    have h0 : (((q + 2 : Nat) : Int) == 0) = false := by simp; omega
    have h1 : (((q + 2 : Nat) : Int) == 1) = false := by simp; omega
    refine jcalls Tryz.func107 rfl (by kernel_rfl) Tryz.ntmps107 rfl rfl (fun w0 β0 ext hβ => ?_)
    repeat (first | refine js rfl ?_ | (refine jdraw ?_ ?_; · kernel_rfl) | refine jbu rfl rfl rfl rfl ?_)
    rw [h0]
    repeat (first | refine js rfl ?_ | (refine jdraw ?_ ?_; · kernel_rfl) | refine jbu rfl rfl rfl rfl ?_)
    rw [h1]
    repeat (first | refine js rfl ?_ | (refine jdraw ?_ ?_; · kernel_rfl) | refine jbu rfl rfl rfl rfl ?_)
    exact jr rfl rfl rfl rfl
theorem opName_bad (op : Int) (h : inn op 0 26 = false) : ACalls Tryz.prog 63 [iv op] [] (one (sv []) []) := by
  have hs : op < 0 ∨ op ≥ 27 := by
    unfold inn at h
    rcases Int.lt_or_le op 0 with h1 | h1
    · exact .inl h1
    · right
      simp at h; omega
  rcases hs with hs | hs
  · have h1 : decide (op < 0) = true := decide_eq_true hs
    refine jcalls Tryz.func63 rfl (by kernel_rfl) Tryz.ntmps63 rfl rfl (fun w0 β0 ext hβ => ?_)
    repeat (first | refine js rfl ?_ | (refine jdraw ?_ ?_; · kernel_rfl) | refine jbu rfl rfl rfl rfl ?_)
    rw [h1]
    repeat (first | refine js rfl ?_ | (refine jdraw ?_ ?_; · kernel_rfl) | refine jbu rfl rfl rfl rfl ?_)
    exact jr rfl rfl rfl rfl
  · have h1 : decide (op < 0) = false := decide_eq_false (by omega)
    have h2 : decide (op ≥ 27) = true := decide_eq_true hs
    refine jcalls Tryz.func63 rfl (by kernel_rfl) Tryz.ntmps63 rfl rfl (fun w0 β0 ext hβ => ?_)
    repeat (first | refine js rfl ?_ | (refine jdraw ?_ ?_; · kernel_rfl) | refine jbu rfl rfl rfl rfl ?_)
    rw [h1]
    repeat (first | refine js rfl ?_ | (refine jdraw ?_ ?_; · kernel_rfl) | refine jbu rfl rfl rfl rfl ?_)
    refine jc rfl rfl rfl (fun h => ?_) (fun h => absurd (show op ≥ 27 from hs) (of_decide_eq_false h))
    repeat (first | refine js rfl ?_ | (refine jdraw ?_ ?_; · kernel_rfl) | refine jbu rfl rfl rfl rfl ?_)
    exact jr rfl rfl rfl rfl
end Go.AL
namespace Go.AL
open Go Go.Proofs
attribute [local irreducible] J
theorem inn_not {v a b : Int} : inn v a b = (!decide (v < a) && !decide (v > b)) := by
  unfold inn
  rw [Bool.eq_iff_iff]
  simp
theorem nm_ne : ∀ k : Nat, k < 27 → (at' opN (k : Int)) ≠ [] := by decide
theorem rmay_ok (n : Nat) (op a b c : Int) (hn : n ≤ 1000000) : ACalls Tryz.prog 71 [.agg [iv op, iv a, iv b, iv c], iv n] [] (one (bv (mayI n ⟨op, a, b, c⟩)) []) := by
  unfold mayI
  simp only
  cases hop : inn op 0 26 with
  | false =>
    have h1 := opName_bad op hop
    simp only [Bool.false_and]
    refine jcalls Tryz.func71 rfl (by kernel_rfl) Tryz.ntmps71 rfl rfl (fun w0 β0 ext hβ => ?_)
    repeat (first | refine js rfl ?_ | (refine jdraw ?_ ?_; · kernel_rfl) | refine jbu rfl rfl rfl rfl ?_ | refine jv h1 rfl rfl rfl rfl rfl ?_)
    rw [beq_self_eq_true]
    repeat (first | refine js rfl ?_ | (refine jdraw ?_ ?_; · kernel_rfl) | refine jbu rfl rfl rfl rfl ?_)
    exact jr rfl rfl rfl rfl
  | true =>
    simp only [Bool.true_and]
    obtain ⟨ho1, ho2⟩ := inn_iff.1 hop
    obtain ⟨k, rfl⟩ : ∃ k : Nat, op = k := ⟨op.toNat, by omega⟩
    have hk : k < 27 := by omega
    have h1 := opName_ok k hk
    have h2 := opKind_ok k hk
    have hne := nm_ne k hk
    obtain ⟨hk3, hkc⟩ := kinds_ok k hk
    rw [opK_at k hk] at h2
    rw [show ((k : Int)).toNat = k from Int.toNat_natCast k]
    unfold kdO
    generalize at' opN (k : Int) = nmo at *
    have he := str_eq nmo []
    rw [decide_eq_false hne] at he
    generalize (at' opsT (k : Int)).2 = kd at *
    obtain ⟨rt, rf⟩ := mayR (n := n) (kd := kd) (a := a) (b := b) (c := c)
    generalize (mayV kd[0]? n a && (mayV kd[1]? n b && mayV kd[2]? n c)) = res at *
    refine jcalls Tryz.func71 rfl (by kernel_rfl) Tryz.ntmps71 rfl rfl (fun w0 β0 ext hβ => ?_)
    repeat (first | refine js rfl ?_ | (refine jdraw ?_ ?_; · kernel_rfl) | refine jbu rfl rfl rfl rfl ?_ | refine jv h1 rfl rfl rfl rfl rfl ?_)
    rw [show ((⟨nmo.toArray⟩ : ByteArray).toList == ({ data := #[] } : ByteArray).toList) = false from he]
    repeat (first | refine js rfl ?_ | (refine jdraw ?_ ?_; · kernel_rfl) | refine jbu rfl rfl rfl rfl ?_ | refine jv h2 rfl rfl rfl rfl rfl ?_)
    refine jloopI (fun q : Nat => q ≤ 3 ∧ ∀ p, p < q → mayV kd[p]? n ([a, b, c].getD p 0) = true) [2, 5, 6, 1] (fun q => [.ptr 0 0, sv kd, iv q, iv n])
      (fun _ => [.box 79 [iv (k : Int), iv a, iv b, iv c]]) (fun q => 3 - q) 0 ⟨by omega, fun p hp => absurd hp (by omega)⟩ rfl rfl (fun q hq => ?_)
    obtain ⟨hq, hok⟩ := hq
    have hstep : ∀ q, q < 3 → (∀ p, p < q → mayV kd[p]? n ([a, b, c].getD p 0) = true) → mayV kd[q]? n ([a, b, c].getD q 0) = true → q + 1 ≤ 3 ∧ ∀ p, p < q + 1 → mayV kd[p]? n ([a, b, c].getD p 0) = true := fun q hq h1 h2 => ⟨by omega, fun p hp => by
      by_cases e : p = q
      · rw [e]; exact h2
      · exact h1 p (by omega)⟩
    by_cases hq3 : q = 3
    · subst hq3
      rw [rt hok]
      repeat (first | refine js rfl ?_ | (refine jdraw ?_ ?_; · kernel_rfl) | refine jbu rfl rfl rfl rfl ?_)
      exact jr rfl rfl rfl rfl
    · have hql : q = 0 ∨ q = 1 ∨ q = 2 := by omega
      have hopd := operand_ok (k : Int) a b c q
      obtain ⟨v, hv⟩ : ∃ v, [a, b, c].getD q 0 = v := ⟨_, rfl⟩
      have hv2 : val3 a b c q = v := by
        rw [← hv]
        rcases hql with rfl | rfl | rfl <;> rfl
      rw [hv2] at hopd
      have rf' := rf q (by omega)
      have hst := hstep q (by omega) hok
      rw [hv] at rf' hst
      clear hv hv2
      by_cases hqk : q < kd.length
      · have hc : kd[q]? = some kd[q] := List.getElem?_eq_getElem hqk
        have hcb := str_idx hc
        have hcc := hkc kd[q] (List.getElem_mem hqk)
        have hd1 : decide ((q : Int) ≥ ((ByteArray.size ⟨kd.toArray⟩ : Nat) : Int)) = false := decide_eq_false (by rw [show ByteArray.size ⟨kd.toArray⟩ = kd.length from rfl]; omega)
        rw [hc] at rf' hst
        generalize kd[q] = ch at *
        rcases hcc with rfl | rfl | rfl
        · skip
          have e : mayV (some 114) n v = (!decide (v < 0) && !decide (v > 7)) := inn_not
          rw [e] at rf' hst
          cases g1 : decide (v < 0) with
          | true =>
            rw [rf' (by rw [g1]; rfl)]
            rcases hql with rfl | rfl | rfl
            all_goals (
              repeat (first | refine js rfl ?_ | (refine jdraw ?_ ?_; · kernel_rfl) | refine jbu rfl rfl rfl rfl ?_ | refine jv hopd rfl rfl rfl rfl rfl ?_ | refine jo rfl rfl (index_str rfl rfl rfl rfl (Int.natCast_nonneg _) hcb) rfl rfl ?_)
            )
            all_goals rw [hd1]
            all_goals (
              repeat (first | refine js rfl ?_ | (refine jdraw ?_ ?_; · kernel_rfl) | refine jbu rfl rfl rfl rfl ?_ | refine jv hopd rfl rfl rfl rfl rfl ?_ | refine jo rfl rfl (index_str rfl rfl rfl rfl (Int.natCast_nonneg _) hcb) rfl rfl ?_)
            )
            all_goals rw [g1]
            all_goals (
              repeat (first | refine js rfl ?_ | (refine jdraw ?_ ?_; · kernel_rfl) | refine jbu rfl rfl rfl rfl ?_ | refine jv hopd rfl rfl rfl rfl rfl ?_ | refine jo rfl rfl (index_str rfl rfl rfl rfl (Int.natCast_nonneg _) hcb) rfl rfl ?_)
            )
            all_goals exact jr rfl rfl rfl rfl
          | false =>
            cases g2 : decide (v > 7) with
            | true =>
              rw [rf' (by rw [g1, g2]; rfl)]
              rcases hql with rfl | rfl | rfl
              all_goals (
                repeat (first | refine js rfl ?_ | (refine jdraw ?_ ?_; · kernel_rfl) | refine jbu rfl rfl rfl rfl ?_ | refine jv hopd rfl rfl rfl rfl rfl ?_ | refine jo rfl rfl (index_str rfl rfl rfl rfl (Int.natCast_nonneg _) hcb) rfl rfl ?_)
              )
              all_goals rw [hd1]
              all_goals (
                repeat (first | refine js rfl ?_ | (refine jdraw ?_ ?_; · kernel_rfl) | refine jbu rfl rfl rfl rfl ?_ | refine jv hopd rfl rfl rfl rfl rfl ?_ | refine jo rfl rfl (index_str rfl rfl rfl rfl (Int.natCast_nonneg _) hcb) rfl rfl ?_)
              )
              all_goals rw [g1]
              all_goals (
                repeat (first | refine js rfl ?_ | (refine jdraw ?_ ?_; · kernel_rfl) | refine jbu rfl rfl rfl rfl ?_ | refine jv hopd rfl rfl rfl rfl rfl ?_ | refine jo rfl rfl (index_str rfl rfl rfl rfl (Int.natCast_nonneg _) hcb) rfl rfl ?_)
              )
              all_goals rw [g2]
              all_goals (
                repeat (first | refine js rfl ?_ | (refine jdraw ?_ ?_; · kernel_rfl) | refine jbu rfl rfl rfl rfl ?_ | refine jv hopd rfl rfl rfl rfl rfl ?_ | refine jo rfl rfl (index_str rfl rfl rfl rfl (Int.natCast_nonneg _) hcb) rfl rfl ?_)
              )
              all_goals exact jr rfl rfl rfl rfl
            | false =>
              rcases hql with rfl | rfl | rfl
              all_goals (
                repeat (first | refine js rfl ?_ | (refine jdraw ?_ ?_; · kernel_rfl) | refine jbu rfl rfl rfl rfl ?_ | refine jv hopd rfl rfl rfl rfl rfl ?_ | refine jo rfl rfl (index_str rfl rfl rfl rfl (Int.natCast_nonneg _) hcb) rfl rfl ?_)
              )
              all_goals rw [hd1]
              all_goals (
                repeat (first | refine js rfl ?_ | (refine jdraw ?_ ?_; · kernel_rfl) | refine jbu rfl rfl rfl rfl ?_ | refine jv hopd rfl rfl rfl rfl rfl ?_ | refine jo rfl rfl (index_str rfl rfl rfl rfl (Int.natCast_nonneg _) hcb) rfl rfl ?_)
              )
              all_goals rw [g1]
              all_goals (
                repeat (first | refine js rfl ?_ | (refine jdraw ?_ ?_; · kernel_rfl) | refine jbu rfl rfl rfl rfl ?_ | refine jv hopd rfl rfl rfl rfl rfl ?_ | refine jo rfl rfl (index_str rfl rfl rfl rfl (Int.natCast_nonneg _) hcb) rfl rfl ?_)
              )
              all_goals rw [g2]
              all_goals (
                repeat (first | refine js rfl ?_ | (refine jdraw ?_ ?_; · kernel_rfl) | refine jbu rfl rfl rfl rfl ?_ | refine jv hopd rfl rfl rfl rfl rfl ?_ | refine jo rfl rfl (index_str rfl rfl rfl rfl (Int.natCast_nonneg _) hcb) rfl rfl ?_)
              )
              all_goals refine jnextI (_ + 1) (hst (by rw [g1, g2]; rfl)) rfl rfl (by omega)
        · skip
          have e : mayV (some 110) n v = (!decide (v < -1000000000) && !decide (v > 1000000000)) := inn_not
          rw [e] at rf' hst
          cases g1 : decide (v < -1000000000) with
          | true =>
            rw [rf' (by rw [g1]; rfl)]
            rcases hql with rfl | rfl | rfl
            all_goals (
              repeat (first | refine js rfl ?_ | (refine jdraw ?_ ?_; · kernel_rfl) | refine jbu rfl rfl rfl rfl ?_ | refine jv hopd rfl rfl rfl rfl rfl ?_ | refine jo rfl rfl (index_str rfl rfl rfl rfl (Int.natCast_nonneg _) hcb) rfl rfl ?_)
            )
            all_goals rw [hd1]
            all_goals (
              repeat (first | refine js rfl ?_ | (refine jdraw ?_ ?_; · kernel_rfl) | refine jbu rfl rfl rfl rfl ?_ | refine jv hopd rfl rfl rfl rfl rfl ?_ | refine jo rfl rfl (index_str rfl rfl rfl rfl (Int.natCast_nonneg _) hcb) rfl rfl ?_)
            )
            all_goals rw [g1]
            all_goals (
              repeat (first | refine js rfl ?_ | (refine jdraw ?_ ?_; · kernel_rfl) | refine jbu rfl rfl rfl rfl ?_ | refine jv hopd rfl rfl rfl rfl rfl ?_ | refine jo rfl rfl (index_str rfl rfl rfl rfl (Int.natCast_nonneg _) hcb) rfl rfl ?_)
            )
            all_goals exact jr rfl rfl rfl rfl
          | false =>
            cases g2 : decide (v > 1000000000) with
            | true =>
              rw [rf' (by rw [g1, g2]; rfl)]
              rcases hql with rfl | rfl | rfl
              all_goals (
                repeat (first | refine js rfl ?_ | (refine jdraw ?_ ?_; · kernel_rfl) | refine jbu rfl rfl rfl rfl ?_ | refine jv hopd rfl rfl rfl rfl rfl ?_ | refine jo rfl rfl (index_str rfl rfl rfl rfl (Int.natCast_nonneg _) hcb) rfl rfl ?_)
              )
              all_goals rw [hd1]
              all_goals (
                repeat (first | refine js rfl ?_ | (refine jdraw ?_ ?_; · kernel_rfl) | refine jbu rfl rfl rfl rfl ?_ | refine jv hopd rfl rfl rfl rfl rfl ?_ | refine jo rfl rfl (index_str rfl rfl rfl rfl (Int.natCast_nonneg _) hcb) rfl rfl ?_)
              )
              all_goals rw [g1]
              all_goals (
                repeat (first | refine js rfl ?_ | (refine jdraw ?_ ?_; · kernel_rfl) | refine jbu rfl rfl rfl rfl ?_ | refine jv hopd rfl rfl rfl rfl rfl ?_ | refine jo rfl rfl (index_str rfl rfl rfl rfl (Int.natCast_nonneg _) hcb) rfl rfl ?_)
              )
              all_goals rw [g2]
              all_goals (
                repeat (first | refine js rfl ?_ | (refine jdraw ?_ ?_; · kernel_rfl) | refine jbu rfl rfl rfl rfl ?_ | refine jv hopd rfl rfl rfl rfl rfl ?_ | refine jo rfl rfl (index_str rfl rfl rfl rfl (Int.natCast_nonneg _) hcb) rfl rfl ?_)
              )
              all_goals exact jr rfl rfl rfl rfl
            | false =>
              rcases hql with rfl | rfl | rfl
              all_goals (
                repeat (first | refine js rfl ?_ | (refine jdraw ?_ ?_; · kernel_rfl) | refine jbu rfl rfl rfl rfl ?_ | refine jv hopd rfl rfl rfl rfl rfl ?_ | refine jo rfl rfl (index_str rfl rfl rfl rfl (Int.natCast_nonneg _) hcb) rfl rfl ?_)
              )
              all_goals rw [hd1]
              all_goals (
                repeat (first | refine js rfl ?_ | (refine jdraw ?_ ?_; · kernel_rfl) | refine jbu rfl rfl rfl rfl ?_ | refine jv hopd rfl rfl rfl rfl rfl ?_ | refine jo rfl rfl (index_str rfl rfl rfl rfl (Int.natCast_nonneg _) hcb) rfl rfl ?_)
              )
              all_goals rw [g1]
              all_goals (
                repeat (first | refine js rfl ?_ | (refine jdraw ?_ ?_; · kernel_rfl) | refine jbu rfl rfl rfl rfl ?_ | refine jv hopd rfl rfl rfl rfl rfl ?_ | refine jo rfl rfl (index_str rfl rfl rfl rfl (Int.natCast_nonneg _) hcb) rfl rfl ?_)
              )
              all_goals rw [g2]
              all_goals (
                repeat (first | refine js rfl ?_ | (refine jdraw ?_ ?_; · kernel_rfl) | refine jbu rfl rfl rfl rfl ?_ | refine jv hopd rfl rfl rfl rfl rfl ?_ | refine jo rfl rfl (index_str rfl rfl rfl rfl (Int.natCast_nonneg _) hcb) rfl rfl ?_)
              )
              all_goals refine jnextI (_ + 1) (hst (by rw [g1, g2]; rfl)) rfl rfl (by omega)
        · skip
          have e : mayV (some 116) n v = (!decide (v < 0) && !decide (v > (n : Int))) := inn_not
          rw [e] at rf' hst
          cases g1 : decide (v < 0) with
          | true =>
            rw [rf' (by rw [g1]; rfl)]
            rcases hql with rfl | rfl | rfl
            all_goals (
              repeat (first | refine js rfl ?_ | (refine jdraw ?_ ?_; · kernel_rfl) | refine jbu rfl rfl rfl rfl ?_ | refine jv hopd rfl rfl rfl rfl rfl ?_ | refine jo rfl rfl (index_str rfl rfl rfl rfl (Int.natCast_nonneg _) hcb) rfl rfl ?_)
            )
            all_goals rw [hd1]
            all_goals (
              repeat (first | refine js rfl ?_ | (refine jdraw ?_ ?_; · kernel_rfl) | refine jbu rfl rfl rfl rfl ?_ | refine jv hopd rfl rfl rfl rfl rfl ?_ | refine jo rfl rfl (index_str rfl rfl rfl rfl (Int.natCast_nonneg _) hcb) rfl rfl ?_)
            )
            all_goals rw [g1]
            all_goals (
              repeat (first | refine js rfl ?_ | (refine jdraw ?_ ?_; · kernel_rfl) | refine jbu rfl rfl rfl rfl ?_ | refine jv hopd rfl rfl rfl rfl rfl ?_ | refine jo rfl rfl (index_str rfl rfl rfl rfl (Int.natCast_nonneg _) hcb) rfl rfl ?_)
            )
            all_goals exact jr rfl rfl rfl rfl
          | false =>
            cases g2 : decide (v > (n : Int)) with
            | true =>
              rw [rf' (by rw [g1, g2]; rfl)]
              rcases hql with rfl | rfl | rfl
              all_goals (
                repeat (first | refine js rfl ?_ | (refine jdraw ?_ ?_; · kernel_rfl) | refine jbu rfl rfl rfl rfl ?_ | refine jv hopd rfl rfl rfl rfl rfl ?_ | refine jo rfl rfl (index_str rfl rfl rfl rfl (Int.natCast_nonneg _) hcb) rfl rfl ?_)
              )
              all_goals rw [hd1]
              all_goals (
                repeat (first | refine js rfl ?_ | (refine jdraw ?_ ?_; · kernel_rfl) | refine jbu rfl rfl rfl rfl ?_ | refine jv hopd rfl rfl rfl rfl rfl ?_ | refine jo rfl rfl (index_str rfl rfl rfl rfl (Int.natCast_nonneg _) hcb) rfl rfl ?_)
              )
              all_goals rw [g1]
              all_goals (
                repeat (first | refine js rfl ?_ | (refine jdraw ?_ ?_; · kernel_rfl) | refine jbu rfl rfl rfl rfl ?_ | refine jv hopd rfl rfl rfl rfl rfl ?_ | refine jo rfl rfl (index_str rfl rfl rfl rfl (Int.natCast_nonneg _) hcb) rfl rfl ?_)
              )
              all_goals rw [g2]
              all_goals (
                repeat (first | refine js rfl ?_ | (refine jdraw ?_ ?_; · kernel_rfl) | refine jbu rfl rfl rfl rfl ?_ | refine jv hopd rfl rfl rfl rfl rfl ?_ | refine jo rfl rfl (index_str rfl rfl rfl rfl (Int.natCast_nonneg _) hcb) rfl rfl ?_)
              )
              all_goals exact jr rfl rfl rfl rfl
            | false =>
              rcases hql with rfl | rfl | rfl
              all_goals (
                repeat (first | refine js rfl ?_ | (refine jdraw ?_ ?_; · kernel_rfl) | refine jbu rfl rfl rfl rfl ?_ | refine jv hopd rfl rfl rfl rfl rfl ?_ | refine jo rfl rfl (index_str rfl rfl rfl rfl (Int.natCast_nonneg _) hcb) rfl rfl ?_)
              )
              all_goals rw [hd1]
              all_goals (
                repeat (first | refine js rfl ?_ | (refine jdraw ?_ ?_; · kernel_rfl) | refine jbu rfl rfl rfl rfl ?_ | refine jv hopd rfl rfl rfl rfl rfl ?_ | refine jo rfl rfl (index_str rfl rfl rfl rfl (Int.natCast_nonneg _) hcb) rfl rfl ?_)
              )
              all_goals rw [g1]
              all_goals (
                repeat (first | refine js rfl ?_ | (refine jdraw ?_ ?_; · kernel_rfl) | refine jbu rfl rfl rfl rfl ?_ | refine jv hopd rfl rfl rfl rfl rfl ?_ | refine jo rfl rfl (index_str rfl rfl rfl rfl (Int.natCast_nonneg _) hcb) rfl rfl ?_)
              )
              all_goals rw [g2]
              all_goals (
                repeat (first | refine js rfl ?_ | (refine jdraw ?_ ?_; · kernel_rfl) | refine jbu rfl rfl rfl rfl ?_ | refine jv hopd rfl rfl rfl rfl rfl ?_ | refine jo rfl rfl (index_str rfl rfl rfl rfl (Int.natCast_nonneg _) hcb) rfl rfl ?_)
              )
              all_goals refine jnextI (_ + 1) (hst (by rw [g1, g2]; rfl)) rfl rfl (by omega)
      · have hc : kd[q]? = none := List.getElem?_eq_none (by omega)
        have hd1 : decide ((q : Int) ≥ ((ByteArray.size ⟨kd.toArray⟩ : Nat) : Int)) = true := decide_eq_true (by rw [show ByteArray.size ⟨kd.toArray⟩ = kd.length from rfl]; omega)
        rw [hc] at rf' hst
        have e : mayV none n v = !(v != 0) := by
          show inn v 0 0 = _
          rw [Bool.eq_iff_iff]
          unfold inn
          simp
          omega
        rw [e] at rf' hst
        cases g1 : (v != 0) with
        | true =>
          rw [rf' (by rw [g1]; rfl)]
          rcases hql with rfl | rfl | rfl
          all_goals (
            repeat (first | refine js rfl ?_ | (refine jdraw ?_ ?_; · kernel_rfl) | refine jbu rfl rfl rfl rfl ?_ | refine jv hopd rfl rfl rfl rfl rfl ?_)
          )
          all_goals rw [hd1]
          all_goals (
            repeat (first | refine js rfl ?_ | (refine jdraw ?_ ?_; · kernel_rfl) | refine jbu rfl rfl rfl rfl ?_)
          )
          all_goals rw [g1]
          all_goals (
            repeat (first | refine js rfl ?_ | (refine jdraw ?_ ?_; · kernel_rfl) | refine jbu rfl rfl rfl rfl ?_)
          )
          all_goals exact jr rfl rfl rfl rfl
        | false =>
          rcases hql with rfl | rfl | rfl
          all_goals (
            repeat (first | refine js rfl ?_ | (refine jdraw ?_ ?_; · kernel_rfl) | refine jbu rfl rfl rfl rfl ?_ | refine jv hopd rfl rfl rfl rfl rfl ?_)
          )
          all_goals rw [hd1]
          all_goals (
            repeat (first | refine js rfl ?_ | (refine jdraw ?_ ?_; · kernel_rfl) | refine jbu rfl rfl rfl rfl ?_)
          )
          all_goals rw [g1]
          all_goals (
            repeat (first | refine js rfl ?_ | (refine jdraw ?_ ?_; · kernel_rfl) | refine jbu rfl rfl rfl rfl ?_)
          )
          all_goals refine jnextI (_ + 1) (hst (by rw [g1]; rfl)) rfl rfl (by omega)
theorem rright_ok (l : List Ins) (hl : l.length ≤ 1000000) : ACalls Tryz.prog 39 [encIs l] [] (one (bv (rightC l)) []) := by
  have hm : ∀ op a b c, ACalls Tryz.prog 71 [.agg [iv op, iv a, iv b, iv c], iv (l.map encIns).length] [] (one (bv (mayI l.length ⟨op, a, b, c⟩)) []) := fun op a b c => by
    rw [List.length_map]; exact rmay_ok l.length op a b c hl
  unfold rightC
  unfold encIs
  cases hb : decide (l.length ≤ 1000) with
  | false =>
    have hd : decide (((l.map encIns).length : Int) > 1000) = true := by
      rw [List.length_map]
      have := of_decide_eq_false hb
      exact decide_eq_true (by omega)
    refine jcalls Tryz.func39 rfl (by kernel_rfl) Tryz.ntmps39 rfl rfl (fun w0 β0 ext hβ => ?_)
    repeat (first | refine js rfl ?_ | (refine jdraw ?_ ?_; · kernel_rfl) | refine jbu rfl rfl rfl rfl ?_)
    rw [hd]
    repeat (first | refine js rfl ?_ | (refine jdraw ?_ ?_; · kernel_rfl) | refine jbu rfl rfl rfl rfl ?_)
    exact jr rfl rfl rfl rfl
  | true =>
    have hd : decide (((l.map encIns).length : Int) > 1000) = false := by
      rw [List.length_map]
      have := of_decide_eq_true hb
      exact decide_eq_false (by omega)
    simp only [Bool.true_and]
    refine jcalls Tryz.func39 rfl (by kernel_rfl) Tryz.ntmps39 rfl rfl (fun w0 β0 ext hβ => ?_)
    repeat (first | refine js rfl ?_ | (refine jdraw ?_ ?_; · kernel_rfl) | refine jbu rfl rfl rfl rfl ?_)
    rw [hd]
    repeat (first | refine js rfl ?_ | (refine jdraw ?_ ?_; · kernel_rfl) | refine jbu rfl rfl rfl rfl ?_)
    refine jloop 0 (fun k : Nat => k ≤ l.length ∧ ∀ q, q < k → mayI l.length (at' l (q : Int)) = true) [0, 8, 9, 10] (fun k => [.sl (l.map encIns), .sl (l.map encIns), .v (.int .i64 ((l.map encIns).length : Int)), .v (.int .i64 (k : Int))])
      (fun _ => []) (fun k => l.length - k) 0 (by rw [hβ]; decide) ⟨Nat.zero_le _, fun q h => absurd h (by omega)⟩ rfl rfl (fun k hk => ?_)
    obtain ⟨hk, hok⟩ := hk
    repeat (first | refine js rfl ?_ | (refine jdraw ?_ ?_; · kernel_rfl) | refine jbu rfl rfl rfl rfl ?_)
    refine jc rfl rfl rfl (fun h => ?_) (fun h => ?_)
    · have h := of_decide_eq_true h
      rw [List.length_map] at h
      have hk2 : k < l.length := by omega
      have hnx := idx_next hk2 (by omega)
      repeat (first | refine js rfl ?_ | (refine jdraw ?_ ?_; · kernel_rfl) | refine jbu rfl rfl rfl rfl ?_ | refine jo rfl rfl (index_at rfl rfl rfl rfl rfl rfl rfl rfl (Int.natCast_nonneg k) h) rfl rfl ?_)
      have hmay : ∀ i, at' l (k : Int) = i → mayI l.length (at' l (k : Int)) = mayI l.length i := fun i e => by rw [e]
      generalize hat : at' l (k : Int) = i at *
      obtain ⟨op, a, b, c⟩ := i
      have hmi := hm op a b c
      cases hb2 : mayI l.length ⟨op, a, b, c⟩ with
      | false =>
        rw [hb2] at hmi
        have : l.all (mayI l.length) = false := by
          rw [List.all_eq_false]
          refine ⟨l[k], List.getElem_mem hk2, ?_⟩
          rw [← at_nat l k hk2, hat, hb2]; simp
        rw [this]
        repeat (first | refine js rfl ?_ | (refine jdraw ?_ ?_; · kernel_rfl) | refine jbu rfl rfl rfl rfl ?_ | refine jv hmi rfl rfl rfl rfl rfl ?_)
        exact jr rfl rfl rfl rfl
      | true =>
        rw [hb2] at hmi
        repeat (first | refine js rfl ?_ | (refine jdraw ?_ ?_; · kernel_rfl) | refine jbu rfl rfl rfl rfl ?_ | refine jv hmi rfl rfl rfl rfl rfl ?_)
        refine jnext (k + 1) ⟨by omega, fun q hq => ?_⟩ (by omega) rfl rfl rfl ?_ ?_
        · by_cases e : q = k
          · rw [e, hat]; exact hb2
          · exact hok q (by omega)
        · rw [hnx]
        · rfl
    · have h := of_decide_eq_false h
      rw [List.length_map] at h
      have : l.all (mayI l.length) = true := by
        rw [List.all_eq_true]
        intro x hx
        obtain ⟨q, hq, rfl⟩ := List.getElem_of_mem hx
        have := hok q (by omega)
        rw [at_nat l q hq] at this
        exact this
      rw [this]
      repeat (first | refine js rfl ?_ | (refine jdraw ?_ ?_; · kernel_rfl) | refine jbu rfl rfl rfl rfl ?_)
      exact jr rfl rfl rfl rfl
end Go.AL
end
