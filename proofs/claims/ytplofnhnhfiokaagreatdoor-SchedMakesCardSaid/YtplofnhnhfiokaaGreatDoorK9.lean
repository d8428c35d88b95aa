/-
  Part 9 of the proof texts: the program logic over the model, then the contracts of the functions that the laws reach. No conditions.
-/
import Derived.Test.YtplofnhnhfiokaaGreatDoorK8
set_option linter.unusedVariables false
set_option linter.unusedSimpArgs false
section
set_option maxRecDepth 100000
namespace Go.AL
open Go Go.Proofs
attribute [local irreducible] J
theorem szOk_iff {n : Nat} {d : Int} : szOk n d = true ↔ (1 ≤ n ∧ n ≤ 8) ∧ 0 ≤ d ∧ d ≤ 8 := by
  unfold szOk
  simp only [Bool.and_eq_true, decide_eq_true_eq, inn_iff]
  omega
structure TsR (t : Tso) : Prop where
  mem : mRight t.mem = true
  sz : (1 ≤ t.bufs.length ∧ t.bufs.length ≤ 8) ∧ 0 ≤ t.depth ∧ t.depth ≤ 8
  put : ∀ b ∈ t.bufs, (b.length : Int) ≤ t.depth ∧ ∀ p ∈ b, 0 ≤ p.loc ∧ p.loc < t.mem.words.length
theorem tsRight_iff {t : Tso} : tsRight t = true ↔ TsR t := by
  unfold tsRight
  simp only [Bool.and_eq_true, szOk_iff, List.all_eq_true, decide_eq_true_eq, inn_iff]
  constructor
  · rintro ⟨a, b, c⟩
    exact ⟨a, b, fun x hx => ⟨(c x hx).1, fun p hp => by have := (c x hx).2 p hp; omega⟩⟩
  · rintro ⟨a, b, c⟩
    exact ⟨a, b, fun x hx => ⟨(c x hx).1, fun p hp => by have := (c x hx).2 p hp; omega⟩⟩
theorem TsR.size {t : Tso} (h : TsR t) : TsSz t := by
  obtain ⟨r1, r2, r3, r4⟩ := (mRight_iff t.mem).1 h.mem
  have := h.sz
  exact ⟨by omega, by omega, by omega, fun b hb => by have := (h.put b hb).1; omega⟩
def encMac (t : Tso) : AVal := .agg (tCells t)
theorem has_ok (t : Tso) (k : Int) (h : TsR t) : ACalls Tryz.prog 259 [encMac t, iv k] [] (one (bv (inn k 0 (t.bufs.length - 1))) []) := by
  have h1 := tso_right t h.size
  rw [tsRight_iff.2 h] at h1
  have e : inn k 0 (t.bufs.length - 1) = (decide (k ≥ 0) && decide (k < ((t.bufs.map encBuf).length : Int))) := by
    unfold inn; rw [List.length_map, decide_eq_decide.2 (show k ≤ (t.bufs.length : Int) - 1 ↔ k < (t.bufs.length : Int) by omega)]
  rw [e]
  unfold encMac tCells ivs
  unfold encTso tCells ivs at h1
  refine jcalls Tryz.func259 rfl (by kernel_rfl) Tryz.ntmps259 rfl rfl (fun w0 β0 ext hβ => ?_)
  repeat (first | refine js rfl ?_ | (refine jdraw ?_ ?_; · kernel_rfl) | refine jbu rfl rfl rfl rfl ?_ | refine jv h1 rfl rfl rfl rfl rfl ?_)
  cases hk : decide (k ≥ 0)
  all_goals (
    repeat (first | refine js rfl ?_ | (refine jdraw ?_ ?_; · kernel_rfl) | refine jbu rfl rfl rfl rfl ?_)
  )
  all_goals exact jr rfl rfl rfl rfl
theorem has_yes (t : Tso) (k : Nat) (h : TsR t) (hk : k < t.bufs.length) : ACalls Tryz.prog 259 [encMac t, iv (k : Int)] [] (one (bv true) []) := by
  have := has_ok t k h
  rwa [inn_iff.2 ⟨by omega, by omega⟩] at this
theorem bufAt_at {t : Tso} {k : Nat} : bufAt t k = at' t.bufs (k : Int) := rfl
theorem wait_ok (t : Tso) (k : Nat) (b : List Wput) (hk : k < t.bufs.length) (hl : t.bufs.length ≤ 8) :
    ACalls Tryz.prog 262 [.ptr 0 0, iv (k : Int), encBuf b] [.box 315 (tCells t)]
      (one (.tup []) [.box 315 (tCells ⟨t.mem, t.depth, t.bufs.set k b⟩)]) := by
  have hc := clone_buf t.bufs (by intro e; rw [e] at hk; simp at hk) (by omega)
  unfold tCells ivs
  refine jcalls Tryz.func262 rfl (by kernel_rfl) Tryz.ntmps262 rfl rfl (fun w0 β0 ext hβ => ?_)
  repeat (first | refine js rfl ?_ | (refine jdraw ?_ ?_; · kernel_rfl) | refine jbu rfl rfl rfl rfl ?_)
  refine jb [] hc rfl rfl rfl ⟨rfl, rfl, rfl, rfl, rfl, rfl⟩ rfl rfl rfl rfl ?_
  repeat (first | refine js rfl ?_ | (refine jdraw ?_ ?_; · kernel_rfl) | refine jbu rfl rfl rfl rfl ?_)
  refine jo rfl rfl (index_own (xs := t.bufs.map encBuf) (n := (k : Int)) rfl rfl rfl rfl rfl rfl (by omega) (by simp; omega)) rfl rfl ?_
  refine jo rfl rfl (store_enc (enc := encBuf) (l := t.bufs) (l' := t.bufs.set k b) rfl rfl rfl (map_at (by omega)) rfl rfl rfl rfl rfl (Nat.le_of_ble_eq_true rfl) (.inr ⟨rfl, rfl⟩) (put_at (enc := encBuf) rfl) rfl) rfl rfl ?_
  repeat (first | refine js rfl ?_ | (refine jdraw ?_ ?_; · kernel_rfl) | refine jbu rfl rfl rfl rfl ?_)
  exact jend [] true rfl rfl rfl ⟨rfl, rfl⟩
theorem tnew_ok (m : Mem) (n d : Int) (hm : m.words.length ≤ 1000000 ∧ m.tags.length ≤ 1000000) :
    ACalls Tryz.prog 91 [encMem m, iv n, iv d] [] (one (.tup [encTso (cond (mRight m && (inn n 1 8 && inn d 0 8)) ⟨m, d, List.replicate n.toNat []⟩ tso0), iv (cond (mRight m) (cond (inn n 1 8 && inn d 0 8) 0 2) 1)]) []) := by
  have h1 := mem_right m hm.1 hm.2
  have h2 := sizes_ok n d
  unfold encTso tCells
  unfold encMem mCells ivs at *
  cases hr : mRight m with
  | false =>
    rw [hr] at h1
    refine jcalls Tryz.func91 rfl (by kernel_rfl) Tryz.ntmps91 rfl rfl (fun w0 β0 ext hβ => ?_)
    repeat (first | refine js rfl ?_ | (refine jdraw ?_ ?_; · kernel_rfl) | refine jbu rfl rfl rfl rfl ?_ | refine jv h1 rfl rfl rfl rfl rfl ?_)
    exact jr rfl rfl rfl rfl
  | true =>
    rw [hr] at h1
    cases hs : (inn n 1 8 && inn d 0 8) with
    | false =>
      rw [hs] at h2
      refine jcalls Tryz.func91 rfl (by kernel_rfl) Tryz.ntmps91 rfl rfl (fun w0 β0 ext hβ => ?_)
      repeat (first | refine js rfl ?_ | (refine jdraw ?_ ?_; · kernel_rfl) | refine jbu rfl rfl rfl rfl ?_ | refine jv h1 rfl rfl rfl rfl rfl ?_ | refine jv h2 rfl rfl rfl rfl rfl ?_)
      exact jr rfl rfl rfl rfl
    | true =>
      rw [hs] at h2
      rw [Bool.and_eq_true, inn_iff, inn_iff] at hs
      have hrep : (List.replicate n.toNat ([] : List Wput)).map encBuf = List.replicate n.toNat (.sl []) := by rw [List.map_replicate]; rfl
      simp only [Bool.and_true, cond_true]
      rw [hrep]
      refine jcalls Tryz.func91 rfl (by kernel_rfl) Tryz.ntmps91 rfl rfl (fun w0 β0 ext hβ => ?_)
      repeat (first | refine js rfl ?_ | (refine jdraw ?_ ?_; · kernel_rfl) | refine jbu rfl rfl rfl rfl ?_ | refine jv h1 rfl rfl rfl rfl rfl ?_ | refine jv h2 rfl rfl rfl rfl rfl ?_)
      refine jo rfl rfl (make_ownA n.toNat (n := n) nil_rel rfl rfl (by omega) rfl rfl rfl rfl rfl rfl rfl (by decide) (by omega) rfl rfl) rfl rfl ?_
      repeat (first | refine js rfl ?_ | (refine jdraw ?_ ?_; · kernel_rfl) | refine jbu rfl rfl rfl rfl ?_)
      exact jr rfl rfl rfl rfl
theorem tload_ok (t : Tso) (k : Nat) (a : Int) (h : TsR t) (hk : k < t.bufs.length) : ACalls Tryz.prog 220 [encTso t, iv (k : Int), iv a] [] (one (.tup [iv (tsLoad t k a).1, iv (tsLoad t k a).2]) []) := by
  have h1 := has_yes t k h hk
  have h2 := load_ok t.mem a h.mem
  have h3 := newest_ok (bufAt t k) a (by rw [bufAt_at]; exact h.size.puts _ (at_mem hk))
  unfold tsLoad
  have hd : ((mLoad t.mem a).2 != 0) = !decide ((mLoad t.mem a).2 = 0) := rfl
  rw [bufAt_at] at *
  unfold encMac tCells ivs at h1
  unfold encTso tCells ivs
  unfold encMem mCells ivs at h2
  generalize mLoad t.mem a = ld at *
  obtain ⟨v, e⟩ := ld
  simp only at *
  generalize hbb : at' t.bufs (k : Int) = bb at *
  cases he : decide (e = 0) with
  | false =>
    rw [he] at hd
    refine jcalls Tryz.func220 rfl (by kernel_rfl) Tryz.ntmps220 rfl rfl (fun w0 β0 ext hβ => ?_)
    repeat (first | refine js rfl ?_ | (refine jdraw ?_ ?_; · kernel_rfl) | refine jbu rfl rfl rfl rfl ?_ | refine jv h1 rfl rfl rfl rfl rfl ?_ | refine jv h2 rfl rfl rfl rfl rfl ?_)
    rw [hd]
    repeat (first | refine js rfl ?_ | (refine jdraw ?_ ?_; · kernel_rfl) | refine jbu rfl rfl rfl rfl ?_)
    exact jr rfl rfl rfl rfl
  | true =>
    rw [he] at hd
    have hk1 : (k : Int) < t.bufs.length := by omega
    refine jcalls Tryz.func220 rfl (by kernel_rfl) Tryz.ntmps220 rfl rfl (fun w0 β0 ext hβ => ?_)
    repeat (first | refine js rfl ?_ | (refine jdraw ?_ ?_; · kernel_rfl) | refine jbu rfl rfl rfl rfl ?_ | refine jv h1 rfl rfl rfl rfl rfl ?_ | refine jv h2 rfl rfl rfl rfl rfl ?_)
    rw [hd]
    repeat (first | refine js rfl ?_ | (refine jdraw ?_ ?_; · kernel_rfl) | refine jbu rfl rfl rfl rfl ?_ | refine jo rfl rfl (index_at rfl rfl rfl rfl rfl rfl rfl rfl (Int.natCast_nonneg k) hk1) rfl rfl ?_)
    rw [hbb]
    repeat (first | refine js rfl ?_ | (refine jdraw ?_ ?_; · kernel_rfl) | refine jbu rfl rfl rfl rfl ?_ | refine jv h3 rfl rfl rfl rfl rfl ?_)
    cases newest bb a
    all_goals (
      repeat (first | refine js rfl ?_ | (refine jdraw ?_ ?_; · kernel_rfl) | refine jbu rfl rfl rfl rfl ?_)
    )
    all_goals exact jr rfl rfl rfl rfl
theorem tstore_ok (t : Tso) (k : Nat) (a v : Int) (h : TsR t) (hk : k < t.bufs.length) : ACalls Tryz.prog 221 [encTso t, iv (k : Int), iv a, iv v] [] (one (.tup [encTso (tsStore t k a v).1, iv (tsStore t k a v).2]) []) := by
  have h1 := has_yes t k h hk
  have h2 := store_ok t.mem a v h.mem
  have h3 := push_ok (bufAt t k) t.depth ⟨a, v⟩ h.sz.2.1 h.sz.2.2 (by rw [bufAt_at]; exact (h.put _ (at_mem hk)).1)
  have h4 := fun b => wait_ok t k b hk h.sz.1.2
  unfold tsStore
  have hd : ((mStore t.mem a v).2 != 0) = !decide ((mStore t.mem a v).2 = 0) := rfl
  have hd2 : (t.depth == 0) = decide (t.depth = 0) := rfl
  rw [bufAt_at] at *
  unfold encMac at h1
  unfold encTso
  unfold tCells ivs at *
  unfold encMem mCells ivs at h2
  generalize mStore t.mem a v = ld at *
  obtain ⟨⟨ws, ts⟩, e⟩ := ld
  simp only at *
  generalize hbb : at' t.bufs (k : Int) = bb at *
  have hk1 : (k : Int) < t.bufs.length := by omega
  cases he : decide (e = 0) with
  | false =>
    rw [he] at hd
    refine jcalls Tryz.func221 rfl (by kernel_rfl) Tryz.ntmps221 rfl rfl (fun w0 β0 ext hβ => ?_)
    repeat (first | refine js rfl ?_ | (refine jdraw ?_ ?_; · kernel_rfl) | refine jbu rfl rfl rfl rfl ?_ | refine jv h1 rfl rfl rfl rfl rfl ?_ | refine jv h2 rfl rfl rfl rfl rfl ?_)
    rw [hd]
    repeat (first | refine js rfl ?_ | (refine jdraw ?_ ?_; · kernel_rfl) | refine jbu rfl rfl rfl rfl ?_)
    exact jr rfl rfl rfl rfl
  | true =>
    rw [he] at hd
    cases hz : decide (t.depth = 0) with
    | true =>
      rw [hz] at hd2
      refine jcalls Tryz.func221 rfl (by kernel_rfl) Tryz.ntmps221 rfl rfl (fun w0 β0 ext hβ => ?_)
      repeat (first | refine js rfl ?_ | (refine jdraw ?_ ?_; · kernel_rfl) | refine jbu rfl rfl rfl rfl ?_ | refine jv h1 rfl rfl rfl rfl rfl ?_ | refine jv h2 rfl rfl rfl rfl rfl ?_)
      rw [hd]
      repeat (first | refine js rfl ?_ | (refine jdraw ?_ ?_; · kernel_rfl) | refine jbu rfl rfl rfl rfl ?_)
      rw [hd2]
      repeat (first | refine js rfl ?_ | (refine jdraw ?_ ?_; · kernel_rfl) | refine jbu rfl rfl rfl rfl ?_)
      exact jr rfl rfl rfl rfl
    | false =>
      rw [hz] at hd2
      cases hf : decide ((bb.length : Int) = t.depth) with
      | true =>
        rw [hf] at h3
        refine jcalls Tryz.func221 rfl (by kernel_rfl) Tryz.ntmps221 rfl rfl (fun w0 β0 ext hβ => ?_)
        repeat (first | refine js rfl ?_ | (refine jdraw ?_ ?_; · kernel_rfl) | refine jbu rfl rfl rfl rfl ?_ | refine jv h1 rfl rfl rfl rfl rfl ?_ | refine jv h2 rfl rfl rfl rfl rfl ?_)
        rw [hd]
        repeat (first | refine js rfl ?_ | (refine jdraw ?_ ?_; · kernel_rfl) | refine jbu rfl rfl rfl rfl ?_)
        rw [hd2]
        repeat (first | refine js rfl ?_ | (refine jdraw ?_ ?_; · kernel_rfl) | refine jbu rfl rfl rfl rfl ?_ | refine jo rfl rfl (index_at rfl rfl rfl rfl rfl rfl rfl rfl (Int.natCast_nonneg k) hk1) rfl rfl ?_)
        rw [hbb]
        repeat (first | refine js rfl ?_ | (refine jdraw ?_ ?_; · kernel_rfl) | refine jbu rfl rfl rfl rfl ?_ | refine jv h3 rfl rfl rfl rfl rfl ?_)
        exact jr rfl rfl rfl rfl
      | false =>
        rw [hf] at h3
        have h4 := h4 (bb ++ [⟨a, v⟩])
        simp only [cond_false] at h3 h4 ⊢
        refine jcalls Tryz.func221 rfl (by kernel_rfl) Tryz.ntmps221 rfl rfl (fun w0 β0 ext hβ => ?_)
        repeat (first | refine js rfl ?_ | (refine jdraw ?_ ?_; · kernel_rfl) | refine jbu rfl rfl rfl rfl ?_ | refine jv h1 rfl rfl rfl rfl rfl ?_ | refine jv h2 rfl rfl rfl rfl rfl ?_)
        rw [hd]
        repeat (first | refine js rfl ?_ | (refine jdraw ?_ ?_; · kernel_rfl) | refine jbu rfl rfl rfl rfl ?_)
        rw [hd2]
        repeat (first | refine js rfl ?_ | (refine jdraw ?_ ?_; · kernel_rfl) | refine jbu rfl rfl rfl rfl ?_ | refine jo rfl rfl (index_at rfl rfl rfl rfl rfl rfl rfl rfl (Int.natCast_nonneg k) hk1) rfl rfl ?_)
        rw [hbb]
        repeat (first | refine js rfl ?_ | (refine jdraw ?_ ?_; · kernel_rfl) | refine jbu rfl rfl rfl rfl ?_ | refine jv h3 rfl rfl rfl rfl rfl ?_)
        refine jb [2] h4 rfl rfl rfl ⟨rfl, rfl, rfl, rfl, rfl, rfl⟩ rfl rfl rfl rfl ?_
        repeat (first | refine js rfl ?_ | (refine jdraw ?_ ?_; · kernel_rfl) | refine jbu rfl rfl rfl rfl ?_)
        exact jr rfl rfl rfl rfl
theorem becomes_ok : ACalls Tryz.prog 263 [] [] (one (.agg [.fn (.func 277) [] [], .fn (.func 278) [] [], .fn (.func 279) [] []]) []) := by
  refine jcalls Tryz.func263 rfl (by kernel_rfl) Tryz.ntmps263 rfl rfl (fun w0 β0 ext hβ => ?_)
  repeat (first | refine js rfl ?_ | (refine jdraw ?_ ?_; · kernel_rfl) | refine jbu rfl rfl rfl rfl ?_)
  exact jr rfl rfl rfl rfl
theorem be1_ok (w a b : Int) : ACalls Tryz.prog 277 [iv w, iv a, iv b] [] (one (iv (become 0 w a b)) []) := by
  have hd : (w == a) = decide (w = a) := rfl
  unfold become
  cases h : decide (w = a)
  all_goals (
    rw [h] at hd
    refine jcalls Tryz.func277 rfl (by kernel_rfl) Tryz.ntmps277 rfl rfl (fun w0 β0 ext hβ => ?_)
    repeat (first | refine js rfl ?_ | (refine jdraw ?_ ?_; · kernel_rfl) | refine jbu rfl rfl rfl rfl ?_)
    rw [hd]
    repeat (first | refine js rfl ?_ | (refine jdraw ?_ ?_; · kernel_rfl) | refine jbu rfl rfl rfl rfl ?_)
  )
  all_goals exact jr rfl rfl rfl rfl
theorem be2_ok (w a b : Int) : ACalls Tryz.prog 278 [iv w, iv a, iv b] [] (one (iv (become 1 w a b)) []) := by
  refine jcalls Tryz.func278 rfl (by kernel_rfl) Tryz.ntmps278 rfl rfl (fun w0 β0 ext hβ => ?_)
  repeat (first | refine js rfl ?_ | (refine jdraw ?_ ?_; · kernel_rfl) | refine jbu rfl rfl rfl rfl ?_)
  exact jr rfl rfl rfl rfl
theorem be3_ok (w a b : Int) : ACalls Tryz.prog 279 [iv w, iv a, iv b] [] (one (iv (become 2 w a b)) []) := by
  refine jcalls Tryz.func279 rfl (by kernel_rfl) Tryz.ntmps279 rfl rfl (fun w0 β0 ext hβ => ?_)
  repeat (first | refine js rfl ?_ | (refine jdraw ?_ ?_; · kernel_rfl) | refine jbu rfl rfl rfl rfl ?_)
  exact jr rfl rfl rfl rfl
theorem locked_ok (t : Tso) (k : Nat) (kd a x y : Int) (h : TsR t) (hk : k < t.bufs.length) (hkd : kd = 0 ∨ kd = 1 ∨ kd = 2) :
    ACalls Tryz.prog 222 [encTso t, iv (k : Int), iv kd, iv a, iv x, iv y] [] (one (.tup [encTso (tsLocked t k kd a x y).1, iv (tsLocked t k kd a x y).2.1, iv (tsLocked t k kd a x y).2.2]) []) := by
  have h1 := has_yes t k h hk
  have h2 := load_ok t.mem a h.mem
  have h3 := fun v => store_ok t.mem a v h.mem
  have h4 := becomes_ok
  have h5 := fun v => be1_ok v x y
  have h6 := fun v => be2_ok v x y
  have h7 := fun v => be3_ok v x y
  unfold tsLocked
  have hd : ((mLoad t.mem a).2 != 0) = !decide ((mLoad t.mem a).2 = 0) := rfl
  rw [bufAt_at] at *
  unfold encMac at h1
  unfold encTso
  unfold tCells ivs at *
  unfold encMem mCells ivs at h2
  generalize mLoad t.mem a = ld at *
  obtain ⟨v, e⟩ := ld
  simp only at *
  have h3 := h3 (become kd v x y)
  generalize mStore t.mem a (become kd v x y) = st at *
  obtain ⟨⟨ws, ts⟩, e2⟩ := st
  unfold encMem mCells ivs at h3
  simp only at *
  generalize hbb : at' t.bufs (k : Int) = bb at *
  have hk1 : (k : Int) < t.bufs.length := by omega
  have hl : decide (((bb.map encPut).length : Int) > 0) = !decide (bb.length = 0) := by rw [List.length_map]; exact dec_not (by omega)
  cases hz : decide (bb.length = 0) with
  | false =>
    rw [hz] at hl
    rcases hkd with rfl | rfl | rfl
    all_goals (
      refine jcalls Tryz.func222 rfl (by kernel_rfl) Tryz.ntmps222 rfl rfl (fun w0 β0 ext hβ => ?_)
      repeat (first | refine js rfl ?_ | (refine jdraw ?_ ?_; · kernel_rfl) | refine jbu rfl rfl rfl rfl ?_ | refine jv h4 rfl rfl rfl rfl rfl ?_ | refine jv h1 rfl rfl rfl rfl rfl ?_ | refine jo rfl rfl (index_at rfl rfl rfl rfl rfl rfl rfl rfl (Int.natCast_nonneg k) hk1) rfl rfl ?_)
      rw [hbb]
      repeat (first | refine js rfl ?_ | (refine jdraw ?_ ?_; · kernel_rfl) | refine jbu rfl rfl rfl rfl ?_)
      rw [hl]
      repeat (first | refine js rfl ?_ | (refine jdraw ?_ ?_; · kernel_rfl) | refine jbu rfl rfl rfl rfl ?_)
    )
    all_goals exact jr rfl rfl rfl rfl
  | true =>
    rw [hz] at hl
    cases he : decide (e = 0) with
    | false =>
      rw [he] at hd
      rcases hkd with rfl | rfl | rfl
      all_goals (
        refine jcalls Tryz.func222 rfl (by kernel_rfl) Tryz.ntmps222 rfl rfl (fun w0 β0 ext hβ => ?_)
        repeat (first | refine js rfl ?_ | (refine jdraw ?_ ?_; · kernel_rfl) | refine jbu rfl rfl rfl rfl ?_ | refine jv h4 rfl rfl rfl rfl rfl ?_ | refine jv h1 rfl rfl rfl rfl rfl ?_ | refine jo rfl rfl (index_at rfl rfl rfl rfl rfl rfl rfl rfl (Int.natCast_nonneg k) hk1) rfl rfl ?_)
        rw [hbb]
        repeat (first | refine js rfl ?_ | (refine jdraw ?_ ?_; · kernel_rfl) | refine jbu rfl rfl rfl rfl ?_)
        rw [hl]
        repeat (first | refine js rfl ?_ | (refine jdraw ?_ ?_; · kernel_rfl) | refine jbu rfl rfl rfl rfl ?_ | refine jv h2 rfl rfl rfl rfl rfl ?_)
        rw [hd]
        repeat (first | refine js rfl ?_ | (refine jdraw ?_ ?_; · kernel_rfl) | refine jbu rfl rfl rfl rfl ?_)
      )
      all_goals exact jr rfl rfl rfl rfl
    | true =>
      rw [he] at hd
      rcases hkd with rfl | rfl | rfl
      all_goals (
        refine jcalls Tryz.func222 rfl (by kernel_rfl) Tryz.ntmps222 rfl rfl (fun w0 β0 ext hβ => ?_)
        repeat (first | refine js rfl ?_ | (refine jdraw ?_ ?_; · kernel_rfl) | refine jbu rfl rfl rfl rfl ?_ | refine jv h4 rfl rfl rfl rfl rfl ?_ | refine jv h1 rfl rfl rfl rfl rfl ?_ | refine jo rfl rfl (index_at rfl rfl rfl rfl rfl rfl rfl rfl (Int.natCast_nonneg k) hk1) rfl rfl ?_)
        rw [hbb]
        repeat (first | refine js rfl ?_ | (refine jdraw ?_ ?_; · kernel_rfl) | refine jbu rfl rfl rfl rfl ?_)
        rw [hl]
        repeat (first | refine js rfl ?_ | (refine jdraw ?_ ?_; · kernel_rfl) | refine jbu rfl rfl rfl rfl ?_ | refine jv h2 rfl rfl rfl rfl rfl ?_)
        rw [hd]
        repeat (first | refine js rfl ?_ | (refine jdraw ?_ ?_; · kernel_rfl) | refine jbu rfl rfl rfl rfl ?_ | refine jo rfl rfl (index_arr rfl rfl rfl rfl rfl (by omega) (by omega)) rfl rfl ?_ | refine jv h3 rfl rfl rfl rfl rfl ?_ | refine jv (h5 v) rfl rfl rfl rfl rfl ?_ | refine jv (h6 v) rfl rfl rfl rfl rfl ?_ | refine jv (h7 v) rfl rfl rfl rfl rfl ?_)
      )
      all_goals exact jr rfl rfl rfl rfl
end Go.AL
end
section
set_option maxRecDepth 100000
namespace Go.AL
open Go Go.Proofs
attribute [local irreducible] J
theorem thRight_pc {t : Thr} (h : thRight t = true) : 0 ≤ t.pc ∧ t.pc ≤ 1000 := by
  unfold thRight at h
  rw [Bool.and_eq_true, inn_iff] at h
  exact h.1
theorem call_ok (t : Thr) (to : Int) (hf : t.frames.length ≤ 1000) (hl : t.left.length ≤ 1000000) : ACalls Tryz.prog 218 [encThr t, iv to] [] (one (.tup [resThr (frCall t to), iv (frCall t to).2]) []) := by
  have h1 := thr_right t (by omega) hl
  have h2 := place_ok to
  have h3 := clip_frm t.frames
  have hpc := fun h => thRight_pc (t := t) h
  unfold frCall
  have e1 : (t.pc == 1000) = decide (t.pc = 1000) := rfl
  have e2 : (((t.frames.map encFrm).length : Int) == 6) = decide (t.frames.length = 6) := by rw [List.length_map, int_beq]; exact decide_eq_decide.2 (by omega)
  have hfr : ∀ f, t.frames.map encFrm ++ [encFrm f] = (t.frames ++ [f]).map encFrm := fun f => by rw [List.map_append]; rfl
  unfold encThr thCells at *
  generalize thRight t = b1 at *
  generalize inn to 0 1000 = b2 at *
  cases b1 with
  | false =>
    refine jcalls Tryz.func218 rfl (by kernel_rfl) Tryz.ntmps218 rfl rfl (fun w0 β0 ext hβ => ?_)
    repeat (first | refine js rfl ?_ | (refine jdraw ?_ ?_; · kernel_rfl) | refine jbu rfl rfl rfl rfl ?_ | refine jv h1 rfl rfl rfl rfl rfl ?_)
    exact jr rfl rfl rfl rfl
  | true =>
    have hpc := hpc rfl
    have hw : IntKind.i64.wrap (t.pc + 1) = t.pc + 1 := by rw [wrap_id] <;> omega
    cases he : decide (t.pc = 1000) with
    | true =>
      rw [he] at e1
      refine jcalls Tryz.func218 rfl (by kernel_rfl) Tryz.ntmps218 rfl rfl (fun w0 β0 ext hβ => ?_)
      repeat (first | refine js rfl ?_ | (refine jdraw ?_ ?_; · kernel_rfl) | refine jbu rfl rfl rfl rfl ?_ | refine jv h1 rfl rfl rfl rfl rfl ?_)
      rw [e1]
      repeat (first | refine js rfl ?_ | (refine jdraw ?_ ?_; · kernel_rfl) | refine jbu rfl rfl rfl rfl ?_)
      exact jr rfl rfl rfl rfl
    | false =>
      rw [he] at e1
      cases b2 with
      | false =>
        refine jcalls Tryz.func218 rfl (by kernel_rfl) Tryz.ntmps218 rfl rfl (fun w0 β0 ext hβ => ?_)
        repeat (first | refine js rfl ?_ | (refine jdraw ?_ ?_; · kernel_rfl) | refine jbu rfl rfl rfl rfl ?_ | refine jv h1 rfl rfl rfl rfl rfl ?_)
        rw [e1]
        repeat (first | refine js rfl ?_ | (refine jdraw ?_ ?_; · kernel_rfl) | refine jbu rfl rfl rfl rfl ?_ | refine jv h2 rfl rfl rfl rfl rfl ?_)
        exact jr rfl rfl rfl rfl
      | true =>
        cases h6 : decide (t.frames.length = 6) with
        | true =>
          rw [h6] at e2
          refine jcalls Tryz.func218 rfl (by kernel_rfl) Tryz.ntmps218 rfl rfl (fun w0 β0 ext hβ => ?_)
          repeat (first | refine js rfl ?_ | (refine jdraw ?_ ?_; · kernel_rfl) | refine jbu rfl rfl rfl rfl ?_ | refine jv h1 rfl rfl rfl rfl rfl ?_)
          rw [e1]
          repeat (first | refine js rfl ?_ | (refine jdraw ?_ ?_; · kernel_rfl) | refine jbu rfl rfl rfl rfl ?_ | refine jv h2 rfl rfl rfl rfl rfl ?_)
          rw [e2]
          repeat (first | refine js rfl ?_ | (refine jdraw ?_ ?_; · kernel_rfl) | refine jbu rfl rfl rfl rfl ?_)
          exact jr rfl rfl rfl rfl
        | false =>
          rw [h6] at e2
          have h3 := h3
          refine jcalls Tryz.func218 rfl (by kernel_rfl) Tryz.ntmps218 rfl rfl (fun w0 β0 ext hβ => ?_)
          repeat (first | refine js rfl ?_ | (refine jdraw ?_ ?_; · kernel_rfl) | refine jbu rfl rfl rfl rfl ?_ | refine jv h1 rfl rfl rfl rfl rfl ?_)
          rw [e1]
          repeat (first | refine js rfl ?_ | (refine jdraw ?_ ?_; · kernel_rfl) | refine jbu rfl rfl rfl rfl ?_ | refine jv h2 rfl rfl rfl rfl rfl ?_)
          rw [e2]
          repeat (first | refine js rfl ?_ | (refine jdraw ?_ ?_; · kernel_rfl) | refine jbu rfl rfl rfl rfl ?_)
          rw [hw]
          repeat (first | refine js rfl ?_ | (refine jdraw ?_ ?_; · kernel_rfl) | refine jbu rfl rfl rfl rfl ?_ | refine jo rfl rfl (slice_box 0 4 rfl rfl rfl rfl rfl rfl (by decide) (by decide) (by decide)) rfl rfl ?_ | refine jo rfl rfl (slice_box 4 8 rfl ⟨_, rfl⟩ rfl rfl rfl rfl (by decide) (by decide) (by decide)) rfl rfl ?_)
          refine jo rfl rfl (copy_bs rfl rfl rfl rfl rfl rfl rfl rfl (Nat.le_of_ble_eq_true rfl) (Nat.le_of_ble_eq_true rfl) rfl) rfl rfl ?_
          repeat (first | refine js rfl ?_ | (refine jdraw ?_ ?_; · kernel_rfl) | refine jbu rfl rfl rfl rfl ?_ | refine jv h3 rfl rfl rfl rfl rfl ?_)
          refine jo rfl rfl (append_new (ys := [encFrm ⟨t.pc + 1, [g0 t.regs 4, g0 t.regs 5, g0 t.regs 6, g0 t.regs 7]⟩]) rfl rfl (.sl rfl) rfl rfl rfl rfl rfl (elems_frm t.frames) (elems_frm [⟨t.pc + 1, [g0 t.regs 4, g0 t.regs 5, g0 t.regs 6, g0 t.regs 7]⟩]) rfl (by simp) (by simp [ty168]; omega) (by simp; omega)) rfl rfl ?_
          rw [hfr]
          repeat (first | refine js rfl ?_ | (refine jdraw ?_ ?_; · kernel_rfl) | refine jbu rfl rfl rfl rfl ?_)
          exact jr rfl rfl rfl rfl
theorem last_at {l : List Frm} (h : l ≠ []) : l.getLast? = some (at' l ((l.length - 1 : Nat) : Int)) := by
  have hl : 0 < l.length := List.length_pos_iff.2 h
  rw [at_nat l _ (by omega), List.getLast?_eq_getElem?, List.getElem?_eq_getElem (by omega)]
theorem back_ok (t : Thr) (hf : t.frames.length ≤ 1000) (hl : t.left.length ≤ 1000000) : ACalls Tryz.prog 219 [encThr t] [] (one (.tup [resThr (frBack t), iv (frBack t).2]) []) := by
  have h1 := thr_right t (by omega) hl
  unfold frBack
  have e2 : (((t.frames.map encFrm).length : Int) == 0) = decide (t.frames = []) := by rw [List.length_map, int_beq]; exact decide_eq_decide.2 (by rw [← List.length_eq_zero_iff]; omega)
  unfold encThr thCells at *
  generalize thRight t = b1 at *
  cases b1 with
  | false =>
    refine jcalls Tryz.func219 rfl (by kernel_rfl) Tryz.ntmps219 rfl rfl (fun w0 β0 ext hβ => ?_)
    repeat (first | refine js rfl ?_ | (refine jdraw ?_ ?_; · kernel_rfl) | refine jbu rfl rfl rfl rfl ?_ | refine jv h1 rfl rfl rfl rfl rfl ?_)
    exact jr rfl rfl rfl rfl
  | true =>
    cases he : decide (t.frames = []) with
    | true =>
      rw [he] at e2
      have hg : t.frames.getLast? = none := by rw [of_decide_eq_true he]; rfl
      rw [hg]
      refine jcalls Tryz.func219 rfl (by kernel_rfl) Tryz.ntmps219 rfl rfl (fun w0 β0 ext hβ => ?_)
      repeat (first | refine js rfl ?_ | (refine jdraw ?_ ?_; · kernel_rfl) | refine jbu rfl rfl rfl rfl ?_ | refine jv h1 rfl rfl rfl rfl rfl ?_)
      rw [e2]
      repeat (first | refine js rfl ?_ | (refine jdraw ?_ ?_; · kernel_rfl) | refine jbu rfl rfl rfl rfl ?_)
      exact jr rfl rfl rfl rfl
    | false =>
      rw [he] at e2
      have hne := of_decide_eq_false he
      have hpos : 0 < t.frames.length := List.length_pos_iff.2 hne
      rw [last_at hne]
      have hw : IntKind.i64.wrap (((t.frames.map encFrm).length : Int) - 1) = ((t.frames.length - 1 : Nat) : Int) := by rw [List.length_map, wrap_id] <;> omega
      have hlt : ((t.frames.length - 1 : Nat) : Int) < t.frames.length := by omega
      have hc := clone_frm_v t.frames.dropLast (by rw [List.length_dropLast]; omega)
      have hd : (t.frames.drop 0).take (t.frames.length - 1 - 0) = t.frames.dropLast := by rw [List.dropLast_eq_take]; rfl
      generalize hx : at' t.frames ((t.frames.length - 1 : Nat) : Int) = f at *
      refine jcalls Tryz.func219 rfl (by kernel_rfl) Tryz.ntmps219 rfl rfl (fun w0 β0 ext hβ => ?_)
      repeat (first | refine js rfl ?_ | (refine jdraw ?_ ?_; · kernel_rfl) | refine jbu rfl rfl rfl rfl ?_ | refine jv h1 rfl rfl rfl rfl rfl ?_)
      rw [e2]
      repeat (first | refine js rfl ?_ | (refine jdraw ?_ ?_; · kernel_rfl) | refine jbu rfl rfl rfl rfl ?_)
      rw [hw]
      repeat (first | refine js rfl ?_ | (refine jdraw ?_ ?_; · kernel_rfl) | refine jbu rfl rfl rfl rfl ?_ | refine jo rfl rfl (index_at rfl rfl rfl rfl rfl rfl rfl rfl (Int.natCast_nonneg _) hlt) rfl rfl ?_)
      rw [hx]
      repeat (first | refine js rfl ?_ | (refine jdraw ?_ ?_; · kernel_rfl) | refine jbu rfl rfl rfl rfl ?_)
      refine jo rfl rfl (cut_enc (enc := encFrm) (l := t.frames) 0 (t.frames.length - 1) rfl rfl rfl ⟨_, rfl⟩ rfl rfl rfl (fun x => ⟨rfl, rfl⟩) (by omega) (by omega)) rfl rfl ?_
      rw [hd]
      repeat (first | refine js rfl ?_ | (refine jdraw ?_ ?_; · kernel_rfl) | refine jbu rfl rfl rfl rfl ?_ | refine jv hc rfl rfl rfl rfl rfl ?_ | refine jo rfl rfl (slice_box 0 4 rfl rfl rfl rfl rfl rfl (by decide) (by decide) (by decide)) rfl rfl ?_ | refine jo rfl rfl (slice_box 4 8 rfl ⟨_, rfl⟩ rfl rfl rfl rfl (by decide) (by decide) (by decide)) rfl rfl ?_)
      refine jo rfl rfl (copy_bs rfl rfl rfl rfl rfl rfl rfl rfl (Nat.le_of_ble_eq_true rfl) (Nat.le_of_ble_eq_true rfl) rfl) rfl rfl ?_
      repeat (first | refine js rfl ?_ | (refine jdraw ?_ ?_; · kernel_rfl) | refine jbu rfl rfl rfl rfl ?_)
      exact jr rfl rfl rfl rfl
end Go.AL
end
section
set_option maxRecDepth 100000
namespace Go.AL
open Go Go.Proofs
attribute [local irreducible] J
theorem lin_ok (n a b : Int) : ACalls Tryz.prog 216 [iv n, iv a, iv b] [] (one (bv (inn n a b)) []) := by
  unfold inn
  refine jcalls Tryz.func216 rfl (by kernel_rfl) Tryz.ntmps216 rfl rfl (fun w0 β0 ext hβ => ?_)
  repeat (first | refine js rfl ?_ | (refine jdraw ?_ ?_; · kernel_rfl) | refine jbu rfl rfl rfl rfl ?_)
  cases h : decide (n ≥ a)
  all_goals (
    repeat (first | refine js rfl ?_ | (refine jdraw ?_ ?_; · kernel_rfl) | refine jbu rfl rfl rfl rfl ?_)
  )
  all_goals exact jr rfl rfl rfl rfl
theorem ready_ok (t : Thr) (s : Int) (hf : t.frames.length ≤ 1000000) (hl : t.left.length ≤ 1000000) : ACalls Tryz.prog 214 [encThr t, iv s] [] (one (iv (loReady t s)) []) := by
  have h1 := thr_right t hf hl
  have h2 := lin_ok s 0 7
  have e1 : (t.state != 0) = !decide (t.state = 0) := rfl
  have e2 : decide (((t.left.map iv).length : Int) > 0) = decide (0 < t.left.length) := by rw [List.length_map]; exact decide_eq_decide.2 (by omega)
  unfold loReady
  unfold encThr thCells at *
  generalize thRight t = b1 at *
  generalize inn s 0 7 = b2 at *
  generalize decide (t.state = 0) = b3 at *
  generalize decide (0 < t.left.length) = b4 at *
  cases b1 with
  | false =>
    refine jcalls Tryz.func214 rfl (by kernel_rfl) Tryz.ntmps214 rfl rfl (fun w0 β0 ext hβ => ?_)
    repeat (first | refine js rfl ?_ | (refine jdraw ?_ ?_; · kernel_rfl) | refine jbu rfl rfl rfl rfl ?_ | refine jv h1 rfl rfl rfl rfl rfl ?_)
    exact jr rfl rfl rfl rfl
  | true =>
    cases b2 with
    | false =>
      refine jcalls Tryz.func214 rfl (by kernel_rfl) Tryz.ntmps214 rfl rfl (fun w0 β0 ext hβ => ?_)
      repeat (first | refine js rfl ?_ | (refine jdraw ?_ ?_; · kernel_rfl) | refine jbu rfl rfl rfl rfl ?_ | refine jv h1 rfl rfl rfl rfl rfl ?_ | refine jv h2 rfl rfl rfl rfl rfl ?_)
      exact jr rfl rfl rfl rfl
    | true =>
      cases b3 with
      | false =>
        refine jcalls Tryz.func214 rfl (by kernel_rfl) Tryz.ntmps214 rfl rfl (fun w0 β0 ext hβ => ?_)
        repeat (first | refine js rfl ?_ | (refine jdraw ?_ ?_; · kernel_rfl) | refine jbu rfl rfl rfl rfl ?_ | refine jv h1 rfl rfl rfl rfl rfl ?_ | refine jv h2 rfl rfl rfl rfl rfl ?_)
        rw [e1]
        repeat (first | refine js rfl ?_ | (refine jdraw ?_ ?_; · kernel_rfl) | refine jbu rfl rfl rfl rfl ?_)
        exact jr rfl rfl rfl rfl
      | true =>
        refine jcalls Tryz.func214 rfl (by kernel_rfl) Tryz.ntmps214 rfl rfl (fun w0 β0 ext hβ => ?_)
        repeat (first | refine js rfl ?_ | (refine jdraw ?_ ?_; · kernel_rfl) | refine jbu rfl rfl rfl rfl ?_ | refine jv h1 rfl rfl rfl rfl rfl ?_ | refine jv h2 rfl rfl rfl rfl rfl ?_)
        rw [e1]
        repeat (first | refine js rfl ?_ | (refine jdraw ?_ ?_; · kernel_rfl) | refine jbu rfl rfl rfl rfl ?_)
        rw [e2]
        cases b4
        all_goals (
          repeat (first | refine js rfl ?_ | (refine jdraw ?_ ?_; · kernel_rfl) | refine jbu rfl rfl rfl rfl ?_)
        )
        all_goals exact jr rfl rfl rfl rfl
def fnA (k : FuncId) : AVal := .fn (.func k) [] []
def howC : List AVal := [iv 0, iv 0, .v .nilFunc, iv 1, iv (-1), fnA 244, iv 2, iv (-1), fnA 245, iv 2, iv (-1), fnA 246,
  iv 2, iv (-1), fnA 247, iv 3, iv (-1), fnA 248, iv 3, iv (-1), fnA 249, iv 3, iv (-1), fnA 250, iv 3, iv (-1), fnA 251,
  iv 3, iv (-1), fnA 252, iv 0, iv 0, fnA 253, iv 1, iv 1, fnA 254, iv 1, iv 1, fnA 255, iv 0, iv 0, .v .nilFunc, iv 0, iv (-1), .v .nilFunc, iv 1, iv (-1), fnA 256]
theorem all_ok : ACalls Tryz.prog 215 [] [] (one (.agg howC) []) := by
  refine jcalls Tryz.func215 rfl (by kernel_rfl) Tryz.ntmps215 rfl rfl (fun w0 β0 ext hβ => ?_)
  repeat (first | refine js rfl ?_ | (refine jdraw ?_ ?_; · kernel_rfl) | refine jbu rfl rfl rfl rfl ?_)
  exact jr rfl rfl rfl rfl
theorem abc_get (a b c : Int) {k : Nat} (h : k < 3) {o : Nat} (ho : o = k) : takeA ty3 [iv a, iv b, iv c] o = some (iv (at' [a, b, c] (k : Int))) := by
  subst ho
  match o, h with
  | 0, _ => rfl
  | 1, _ => rfl
  | 2, _ => rfl
  | k + 3, h => omega
theorem lmay_ok (n : Nat) (tg : Int) (fn : AVal) (i : Ins) (hn : n ≤ 3) (ht : tg = -1 ∨ 0 ≤ tg ∧ tg < 3) (hf : fn = .v .nilFunc ∨ ∃ k, fn = fnA k) :
    ACalls Tryz.prog 217 [.agg [iv (n : Int), iv tg, fn], encIns i] [] (one (bv ((([i.a, i.b, i.c].take n).all fun k => inn k 0 7) && (decide (tg = -1) || inn (g0 [i.a, i.b, i.c] tg.toNat) 0 1000))) []) := by
  have h1 := fun v => lin_ok v 0 7
  have h2 := lin_ok (g0 [i.a, i.b, i.c] tg.toNat) 0 1000
  have e1 : (tg == -1) = decide (tg = -1) := rfl
  have htk : ([i.a, i.b, i.c].take n).length = n := by simp; omega
  have hta : ∀ q : Nat, q < n → at' ([i.a, i.b, i.c].take n) (q : Int) = at' [i.a, i.b, i.c] (q : Int) := fun q hq => by
    rw [at_nat _ q (by omega), at_nat _ q (by simp; omega)]; simp
  obtain ⟨hz1, hz2⟩ := allAt (l := [i.a, i.b, i.c].take n) (p := fun k => inn k 0 7)
  rw [htk] at hz1 hz2
  unfold encIns
  rcases hf with rfl | ⟨kf, rfl⟩
  all_goals (
    refine jcalls Tryz.func217 rfl (by kernel_rfl) Tryz.ntmps217 rfl rfl (fun w0 β0 ext hβ => ?_)
    repeat (first | refine js rfl ?_ | (refine jdraw ?_ ?_; · kernel_rfl) | refine jbu rfl rfl rfl rfl ?_ | refine jo rfl rfl (slice_box 0 n rfl rfl ⟨_, rfl⟩ rfl rfl rfl (by omega) (by omega) (by omega)) rfl rfl ?_ | refine jo rfl rfl (len_bs rfl rfl rfl) rfl rfl ?_)
    refine jloopI (fun k : Nat => k ≤ n ∧ ∀ q, q < k → inn (at' ([i.a, i.b, i.c].take n) (q : Int)) 0 7 = true) [2, 5, 17, 18, 19] (fun k => [.ptr 0 0, .ptr 2 0, .bs 2 0 n 3, iv (n : Int), iv (k : Int)])
      (fun k => _) (fun k => n - k) 0 ⟨Nat.zero_le _, fun q h => absurd h (by omega)⟩ rfl rfl (fun k hk => ?_)
    obtain ⟨hk, hok⟩ := hk
    repeat (first | refine js rfl ?_ | (refine jdraw ?_ ?_; · kernel_rfl) | refine jbu rfl rfl rfl rfl ?_)
    refine jc rfl rfl rfl (fun h => ?_) (fun h => ?_)
    · have h := of_decide_eq_true h
      have hk2 : k < n := by omega
      have hidx : IntKind.i64.wrap ((k : Int) + 1) = ((k + 1 : Nat) : Int) := idx_next hk2 (by omega)
      have h1 := h1 (at' [i.a, i.b, i.c] (k : Int))
      have hno := hz2 k hk2
      rw [hta k hk2] at hno
      have hnx : inn (at' [i.a, i.b, i.c] (k : Int)) 0 7 = true → ∀ q, q < k + 1 → inn (at' ([i.a, i.b, i.c].take n) (q : Int)) 0 7 = true := fun hb q hq => by
        by_cases e : q = k
        · subst e; rw [hta _ hk2]; exact hb
        · exact hok q (by omega)
      have hcell := abc_get i.a i.b i.c (k := k) (by omega) (o := 0 + ((k : Int)).toNat * ty3.size) (by show 0 + k * 1 = k; omega)
      repeat (first | refine js rfl ?_ | (refine jdraw ?_ ?_; · kernel_rfl) | refine jbu rfl rfl rfl rfl ?_ | refine jo rfl rfl (index_bs rfl rfl rfl rfl rfl (Int.natCast_nonneg k) h) rfl rfl ?_ | refine jo rfl rfl (load_dsem (r := ty3) rfl rfl rfl hcell) rfl rfl ?_ | refine jv h1 rfl rfl rfl rfl rfl ?_)
      cases hb : inn (at' [i.a, i.b, i.c] (k : Int)) 0 7 with
      | false =>
        repeat (first | refine js rfl ?_ | (refine jdraw ?_ ?_; · kernel_rfl) | refine jbu rfl rfl rfl rfl ?_)
        rw [hno hb]
        exact jr rfl rfl rfl rfl
      | true =>
        repeat (first | refine js rfl ?_ | (refine jdraw ?_ ?_; · kernel_rfl) | refine jbu rfl rfl rfl rfl ?_)
        refine jnextI (k + 1) ⟨by omega, hnx hb⟩ ?_ rfl (by omega)
        show some _ = some _
        rw [hidx]
        rfl
    · have h := of_decide_eq_false h
      rw [hz1 fun q hq => hok q (by omega)]
      repeat (first | refine js rfl ?_ | (refine jdraw ?_ ?_; · kernel_rfl) | refine jbu rfl rfl rfl rfl ?_)
      rw [e1]
      rcases ht with rfl | ⟨t0, t3⟩
      · repeat (first | refine js rfl ?_ | (refine jdraw ?_ ?_; · kernel_rfl) | refine jbu rfl rfl rfl rfl ?_)
        exact jr rfl rfl rfl rfl
      · rw [show decide (tg = -1) = false from decide_eq_false (by omega)]
        have hcell := abc_get i.a i.b i.c (k := tg.toNat) (by omega) (o := 0 + tg.toNat * ty3.size) (by show 0 + tg.toNat * 1 = tg.toNat; omega)
        rw [show at' [i.a, i.b, i.c] ((tg.toNat : Nat) : Int) = g0 [i.a, i.b, i.c] tg.toNat from rfl] at hcell
        repeat (first | refine js rfl ?_ | (refine jdraw ?_ ?_; · kernel_rfl) | refine jbu rfl rfl rfl rfl ?_ | refine jo rfl rfl (index_arr rfl rfl rfl rfl rfl t0 t3) rfl rfl ?_ | refine jo rfl rfl (load_dsem (r := ty3) rfl rfl rfl hcell) rfl rfl ?_ | refine jv h2 rfl rfl rfl rfl rfl ?_)
        exact jr rfl rfl rfl rfl
  )
def lwC (t : Thr) (s : Int) (i : Ins) : List AVal :=
  [iv t.pc, iv (g0 t.regs 0), iv (g0 t.regs 1), iv (g0 t.regs 2), iv (g0 t.regs 3), iv (g0 t.regs 4), iv (g0 t.regs 5), iv (g0 t.regs 6), iv (g0 t.regs 7), .sl (t.frames.map encFrm), iv t.state, iv t.fault, .slz (t.left.map iv), iv s, iv i.op, iv i.a, iv i.b, iv i.c]
theorem eight {k : Int} (h0 : 0 ≤ k) (h8 : k < 8) : k = 0 ∨ k = 1 ∨ k = 2 ∨ k = 3 ∨ k = 4 ∨ k = 5 ∨ k = 6 ∨ k = 7 := by omega
theorem lw_get (t : Thr) (s : Int) (i : Ins) {k : Int} (h0 : 0 ≤ k) (h8 : k < 8) : takeA ty3 (lwC t s i) (0 + 1 + k.toNat * ty3.size) = some (iv (rg t k)) := by
  rcases eight h0 h8 with rfl | rfl | rfl | rfl | rfl | rfl | rfl | rfl <;> rfl
theorem lw_set (t : Thr) (s : Int) (i : Ins) (v : Int) {k : Int} (h0 : 0 ≤ k) (h8 : k < 8) : spliceA (lwC t s i) (0 + 1 + k.toNat * ty3.size) [iv v] = lwC (setR t k v) s i := by
  rcases eight h0 h8 with rfl | rfl | rfl | rfl | rfl | rfl | rfl | rfl <;> rfl
theorem lone_ok (t : Thr) (s : Int) (i : Ins) (h0 : 0 ≤ i.b) (h8 : i.b < 8) : ACalls Tryz.prog 274 [.ptr 0 0] [.box 294 (lwC t s i)] (one (iv (rg t i.b)) [.box 294 (lwC t s i)]) := by
  have hg := lw_get t s i h0 h8
  unfold lwC at *
  refine jcalls Tryz.func274 rfl (by kernel_rfl) Tryz.ntmps274 rfl rfl (fun w0 β0 ext hβ => ?_)
  repeat (first | refine js rfl ?_ | (refine jdraw ?_ ?_; · kernel_rfl) | refine jbu rfl rfl rfl rfl ?_ | refine jo rfl rfl (index_arr rfl rfl rfl rfl rfl h0 h8) rfl rfl ?_ | refine jo rfl rfl (load_dsem (r := ty3) rfl rfl rfl hg) rfl rfl ?_)
  exact jr rfl rfl rfl rfl
theorem ltwo_ok (t : Thr) (s : Int) (i : Ins) (h0 : 0 ≤ i.c) (h8 : i.c < 8) : ACalls Tryz.prog 275 [.ptr 0 0] [.box 294 (lwC t s i)] (one (iv (rg t i.c)) [.box 294 (lwC t s i)]) := by
  have hg := lw_get t s i h0 h8
  unfold lwC at *
  refine jcalls Tryz.func275 rfl (by kernel_rfl) Tryz.ntmps275 rfl rfl (fun w0 β0 ext hβ => ?_)
  repeat (first | refine js rfl ?_ | (refine jdraw ?_ ?_; · kernel_rfl) | refine jbu rfl rfl rfl rfl ?_ | refine jo rfl rfl (index_arr rfl rfl rfl rfl rfl h0 h8) rfl rfl ?_ | refine jo rfl rfl (load_dsem (r := ty3) rfl rfl rfl hg) rfl rfl ?_)
  exact jr rfl rfl rfl rfl
theorem lset_ok (t : Thr) (s : Int) (i : Ins) (v : Int) (h0 : 0 ≤ i.a) (h8 : i.a < 8) : ACalls Tryz.prog 273 [.ptr 0 0, iv v] [.box 294 (lwC t s i)] (one (.tup []) [.box 294 (lwC (setR t i.a v) s i)]) := by
  have hg := lw_set t s i v h0 h8
  have hle : 0 + 1 + i.a.toNat * ty3.size + 1 ≤ 18 := by show 0 + 1 + i.a.toNat * 1 + 1 ≤ 18; omega
  unfold lwC at *
  refine jcalls Tryz.func273 rfl (by kernel_rfl) Tryz.ntmps273 rfl rfl (fun w0 β0 ext hβ => ?_)
  repeat (first | refine js rfl ?_ | (refine jdraw ?_ ?_; · kernel_rfl) | refine jbu rfl rfl rfl rfl ?_ | refine jo rfl rfl (index_arr rfl rfl rfl rfl rfl h0 h8) rfl rfl ?_ | refine jo rfl rfl (store_box (r' := ty3) (v := iv v) rfl rfl rfl rfl rfl rfl hle hg) rfl rfl ?_)
  exact jend [] true rfl rfl rfl ⟨rfl, rfl⟩
theorem lm_load (t : Thr) (s : Int) (i : Ins) (ha0 : 0 ≤ i.a) (ha8 : i.a < 8) : ACalls Tryz.prog 244 [.ptr 0 0] [.box 294 (lwC t s i)] (one (.tup []) [.box 294 (lwC (setR t i.a (i.b)) s i)]) := by
  have hs := lset_ok t s i (i.b) ha0 ha8
  unfold lwC at *
  refine jcalls Tryz.func244 rfl (by kernel_rfl) Tryz.ntmps244 rfl rfl (fun w0 β0 ext hβ => ?_)
  repeat (first | refine js rfl ?_ | (refine jdraw ?_ ?_; · kernel_rfl) | refine jbu rfl rfl rfl rfl ?_)
  refine jb [0] hs rfl rfl rfl ⟨rfl, rfl, rfl, rfl, rfl, rfl⟩ rfl rfl rfl rfl ?_
  repeat (first | refine js rfl ?_ | (refine jdraw ?_ ?_; · kernel_rfl) | refine jbu rfl rfl rfl rfl ?_)
  exact jend [] true rfl rfl rfl ⟨rfl, rfl⟩
theorem lm_move (t : Thr) (s : Int) (i : Ins) (ha0 : 0 ≤ i.a) (ha8 : i.a < 8) (hb0 : 0 ≤ i.b) (hb8 : i.b < 8) : ACalls Tryz.prog 245 [.ptr 0 0] [.box 294 (lwC t s i)] (one (.tup []) [.box 294 (lwC (setR t i.a (rg t i.b)) s i)]) := by
  have hs := lset_ok t s i (rg t i.b) ha0 ha8
  have h1 := lone_ok t s i hb0 hb8
  unfold lwC at *
  refine jcalls Tryz.func245 rfl (by kernel_rfl) Tryz.ntmps245 rfl rfl (fun w0 β0 ext hβ => ?_)
  repeat (first | refine js rfl ?_ | (refine jdraw ?_ ?_; · kernel_rfl) | refine jbu rfl rfl rfl rfl ?_)
  refine jb [0] h1 rfl rfl rfl ⟨rfl, rfl, rfl, rfl, rfl, rfl⟩ rfl rfl rfl rfl ?_
  repeat (first | refine js rfl ?_ | (refine jdraw ?_ ?_; · kernel_rfl) | refine jbu rfl rfl rfl rfl ?_)
  refine jb [0] hs rfl rfl rfl ⟨rfl, rfl, rfl, rfl, rfl, rfl⟩ rfl rfl rfl rfl ?_
  repeat (first | refine js rfl ?_ | (refine jdraw ?_ ?_; · kernel_rfl) | refine jbu rfl rfl rfl rfl ?_)
  exact jend [] true rfl rfl rfl ⟨rfl, rfl⟩
theorem lm_plus (t : Thr) (s : Int) (i : Ins) (ha0 : 0 ≤ i.a) (ha8 : i.a < 8) (hb0 : 0 ≤ i.b) (hb8 : i.b < 8) : ACalls Tryz.prog 246 [.ptr 0 0] [.box 294 (lwC t s i)] (one (.tup []) [.box 294 (lwC (setR t i.a (IntKind.i64.wrap (rg t i.b + i.c))) s i)]) := by
  have hs := lset_ok t s i (IntKind.i64.wrap (rg t i.b + i.c)) ha0 ha8
  have h1 := lone_ok t s i hb0 hb8
  unfold lwC at *
  refine jcalls Tryz.func246 rfl (by kernel_rfl) Tryz.ntmps246 rfl rfl (fun w0 β0 ext hβ => ?_)
  refine jdrawPT [(0, .p), (1, .p), (2, .s), (3, .p), (4, .p), (5, .p), (6, .p), (7, .r), (8, .p), (9, .m)] rfl (by kernel_rfl) ?_
  repeat (first | refine js rfl ?_ | (refine jdraw ?_ ?_; · kernel_rfl) | refine jbu rfl rfl rfl rfl ?_)
  refine jbs [0] h1 rfl rfl rfl ⟨rfl, rfl, rfl, rfl, rfl, rfl⟩ rfl rfl rfl rfl ?_
  repeat (first | refine js rfl ?_ | (refine jdraw ?_ ?_; · kernel_rfl) | refine jbu rfl rfl rfl rfl ?_)
  refine jb [0] hs rfl rfl rfl ⟨rfl, rfl, rfl, rfl, rfl, rfl⟩ rfl rfl rfl rfl ?_
  repeat (first | refine js rfl ?_ | (refine jdraw ?_ ?_; · kernel_rfl) | refine jbu rfl rfl rfl rfl ?_)
  exact jend [] true rfl rfl rfl ⟨rfl, rfl⟩
theorem lm_mask (t : Thr) (s : Int) (i : Ins) (ha0 : 0 ≤ i.a) (ha8 : i.a < 8) (hb0 : 0 ≤ i.b) (hb8 : i.b < 8) : ACalls Tryz.prog 247 [.ptr 0 0] [.box 294 (lwC t s i)] (one (.tup []) [.box 294 (lwC (setR t i.a (bitsI .and .i64 (rg t i.b) i.c)) s i)]) := by
  have hs := lset_ok t s i (bitsI .and .i64 (rg t i.b) i.c) ha0 ha8
  have h1 := lone_ok t s i hb0 hb8
  unfold lwC at *
  refine jcalls Tryz.func247 rfl (by kernel_rfl) Tryz.ntmps247 rfl rfl (fun w0 β0 ext hβ => ?_)
  refine jdrawPT [(0, .p), (1, .p), (2, .s), (3, .p), (4, .p), (5, .p), (6, .p), (7, .r), (8, .p), (9, .m)] rfl (by kernel_rfl) ?_
  repeat (first | refine js rfl ?_ | (refine jdraw ?_ ?_; · kernel_rfl) | refine jbu rfl rfl rfl rfl ?_)
  refine jbs [0] h1 rfl rfl rfl ⟨rfl, rfl, rfl, rfl, rfl, rfl⟩ rfl rfl rfl rfl ?_
  repeat (first | refine js rfl ?_ | (refine jdraw ?_ ?_; · kernel_rfl) | refine jbu rfl rfl rfl rfl ?_)
  refine jb [0] hs rfl rfl rfl ⟨rfl, rfl, rfl, rfl, rfl, rfl⟩ rfl rfl rfl rfl ?_
  repeat (first | refine js rfl ?_ | (refine jdraw ?_ ?_; · kernel_rfl) | refine jbu rfl rfl rfl rfl ?_)
  exact jend [] true rfl rfl rfl ⟨rfl, rfl⟩
theorem lm_add (t : Thr) (s : Int) (i : Ins) (ha0 : 0 ≤ i.a) (ha8 : i.a < 8) (hb0 : 0 ≤ i.b) (hb8 : i.b < 8) (hc0 : 0 ≤ i.c) (hc8 : i.c < 8) : ACalls Tryz.prog 248 [.ptr 0 0] [.box 294 (lwC t s i)] (one (.tup []) [.box 294 (lwC (setR t i.a (IntKind.i64.wrap (rg t i.b + rg t i.c))) s i)]) := by
  have hs := lset_ok t s i (IntKind.i64.wrap (rg t i.b + rg t i.c)) ha0 ha8
  have h1 := lone_ok t s i hb0 hb8
  have h2 := ltwo_ok t s i hc0 hc8
  unfold lwC at *
  refine jcalls Tryz.func248 rfl (by kernel_rfl) Tryz.ntmps248 rfl rfl (fun w0 β0 ext hβ => ?_)
  repeat (first | refine js rfl ?_ | (refine jdraw ?_ ?_; · kernel_rfl) | refine jbu rfl rfl rfl rfl ?_)
  refine jb [0] h1 rfl rfl rfl ⟨rfl, rfl, rfl, rfl, rfl, rfl⟩ rfl rfl rfl rfl ?_
  repeat (first | refine js rfl ?_ | (refine jdraw ?_ ?_; · kernel_rfl) | refine jbu rfl rfl rfl rfl ?_)
  refine jb [0] h2 rfl rfl rfl ⟨rfl, rfl, rfl, rfl, rfl, rfl⟩ rfl rfl rfl rfl ?_
  repeat (first | refine js rfl ?_ | (refine jdraw ?_ ?_; · kernel_rfl) | refine jbu rfl rfl rfl rfl ?_)
  refine jb [0] hs rfl rfl rfl ⟨rfl, rfl, rfl, rfl, rfl, rfl⟩ rfl rfl rfl rfl ?_
  repeat (first | refine js rfl ?_ | (refine jdraw ?_ ?_; · kernel_rfl) | refine jbu rfl rfl rfl rfl ?_)
  exact jend [] true rfl rfl rfl ⟨rfl, rfl⟩
theorem lm_sub (t : Thr) (s : Int) (i : Ins) (ha0 : 0 ≤ i.a) (ha8 : i.a < 8) (hb0 : 0 ≤ i.b) (hb8 : i.b < 8) (hc0 : 0 ≤ i.c) (hc8 : i.c < 8) : ACalls Tryz.prog 249 [.ptr 0 0] [.box 294 (lwC t s i)] (one (.tup []) [.box 294 (lwC (setR t i.a (IntKind.i64.wrap (rg t i.b - rg t i.c))) s i)]) := by
  have hs := lset_ok t s i (IntKind.i64.wrap (rg t i.b - rg t i.c)) ha0 ha8
  have h1 := lone_ok t s i hb0 hb8
  have h2 := ltwo_ok t s i hc0 hc8
  unfold lwC at *
  refine jcalls Tryz.func249 rfl (by kernel_rfl) Tryz.ntmps249 rfl rfl (fun w0 β0 ext hβ => ?_)
  repeat (first | refine js rfl ?_ | (refine jdraw ?_ ?_; · kernel_rfl) | refine jbu rfl rfl rfl rfl ?_)
  refine jb [0] h1 rfl rfl rfl ⟨rfl, rfl, rfl, rfl, rfl, rfl⟩ rfl rfl rfl rfl ?_
  repeat (first | refine js rfl ?_ | (refine jdraw ?_ ?_; · kernel_rfl) | refine jbu rfl rfl rfl rfl ?_)
  refine jb [0] h2 rfl rfl rfl ⟨rfl, rfl, rfl, rfl, rfl, rfl⟩ rfl rfl rfl rfl ?_
  repeat (first | refine js rfl ?_ | (refine jdraw ?_ ?_; · kernel_rfl) | refine jbu rfl rfl rfl rfl ?_)
  refine jb [0] hs rfl rfl rfl ⟨rfl, rfl, rfl, rfl, rfl, rfl⟩ rfl rfl rfl rfl ?_
  repeat (first | refine js rfl ?_ | (refine jdraw ?_ ?_; · kernel_rfl) | refine jbu rfl rfl rfl rfl ?_)
  exact jend [] true rfl rfl rfl ⟨rfl, rfl⟩
theorem lm_and (t : Thr) (s : Int) (i : Ins) (ha0 : 0 ≤ i.a) (ha8 : i.a < 8) (hb0 : 0 ≤ i.b) (hb8 : i.b < 8) (hc0 : 0 ≤ i.c) (hc8 : i.c < 8) : ACalls Tryz.prog 250 [.ptr 0 0] [.box 294 (lwC t s i)] (one (.tup []) [.box 294 (lwC (setR t i.a (bitsI .and .i64 (rg t i.b) (rg t i.c))) s i)]) := by
  have hs := lset_ok t s i (bitsI .and .i64 (rg t i.b) (rg t i.c)) ha0 ha8
  have h1 := lone_ok t s i hb0 hb8
  have h2 := ltwo_ok t s i hc0 hc8
  unfold lwC at *
  refine jcalls Tryz.func250 rfl (by kernel_rfl) Tryz.ntmps250 rfl rfl (fun w0 β0 ext hβ => ?_)
  repeat (first | refine js rfl ?_ | (refine jdraw ?_ ?_; · kernel_rfl) | refine jbu rfl rfl rfl rfl ?_)
  refine jb [0] h1 rfl rfl rfl ⟨rfl, rfl, rfl, rfl, rfl, rfl⟩ rfl rfl rfl rfl ?_
  repeat (first | refine js rfl ?_ | (refine jdraw ?_ ?_; · kernel_rfl) | refine jbu rfl rfl rfl rfl ?_)
  refine jb [0] h2 rfl rfl rfl ⟨rfl, rfl, rfl, rfl, rfl, rfl⟩ rfl rfl rfl rfl ?_
  repeat (first | refine js rfl ?_ | (refine jdraw ?_ ?_; · kernel_rfl) | refine jbu rfl rfl rfl rfl ?_)
  refine jb [0] hs rfl rfl rfl ⟨rfl, rfl, rfl, rfl, rfl, rfl⟩ rfl rfl rfl rfl ?_
  repeat (first | refine js rfl ?_ | (refine jdraw ?_ ?_; · kernel_rfl) | refine jbu rfl rfl rfl rfl ?_)
  exact jend [] true rfl rfl rfl ⟨rfl, rfl⟩
theorem lm_xor (t : Thr) (s : Int) (i : Ins) (ha0 : 0 ≤ i.a) (ha8 : i.a < 8) (hb0 : 0 ≤ i.b) (hb8 : i.b < 8) (hc0 : 0 ≤ i.c) (hc8 : i.c < 8) : ACalls Tryz.prog 251 [.ptr 0 0] [.box 294 (lwC t s i)] (one (.tup []) [.box 294 (lwC (setR t i.a (bitsI .xor .i64 (rg t i.b) (rg t i.c))) s i)]) := by
  have hs := lset_ok t s i (bitsI .xor .i64 (rg t i.b) (rg t i.c)) ha0 ha8
  have h1 := lone_ok t s i hb0 hb8
  have h2 := ltwo_ok t s i hc0 hc8
  unfold lwC at *
  refine jcalls Tryz.func251 rfl (by kernel_rfl) Tryz.ntmps251 rfl rfl (fun w0 β0 ext hβ => ?_)
  repeat (first | refine js rfl ?_ | (refine jdraw ?_ ?_; · kernel_rfl) | refine jbu rfl rfl rfl rfl ?_)
  refine jb [0] h1 rfl rfl rfl ⟨rfl, rfl, rfl, rfl, rfl, rfl⟩ rfl rfl rfl rfl ?_
  repeat (first | refine js rfl ?_ | (refine jdraw ?_ ?_; · kernel_rfl) | refine jbu rfl rfl rfl rfl ?_)
  refine jb [0] h2 rfl rfl rfl ⟨rfl, rfl, rfl, rfl, rfl, rfl⟩ rfl rfl rfl rfl ?_
  repeat (first | refine js rfl ?_ | (refine jdraw ?_ ?_; · kernel_rfl) | refine jbu rfl rfl rfl rfl ?_)
  refine jb [0] hs rfl rfl rfl ⟨rfl, rfl, rfl, rfl, rfl, rfl⟩ rfl rfl rfl rfl ?_
  repeat (first | refine js rfl ?_ | (refine jdraw ?_ ?_; · kernel_rfl) | refine jbu rfl rfl rfl rfl ?_)
  exact jend [] true rfl rfl rfl ⟨rfl, rfl⟩
theorem lm_who (t : Thr) (s : Int) (i : Ins) (ha0 : 0 ≤ i.a) (ha8 : i.a < 8) : ACalls Tryz.prog 256 [.ptr 0 0] [.box 294 (lwC t s i)] (one (.tup []) [.box 294 (lwC (setR t i.a (s)) s i)]) := by
  have hs := lset_ok t s i (s) ha0 ha8
  unfold lwC at *
  refine jcalls Tryz.func256 rfl (by kernel_rfl) Tryz.ntmps256 rfl rfl (fun w0 β0 ext hβ => ?_)
  repeat (first | refine js rfl ?_ | (refine jdraw ?_ ?_; · kernel_rfl) | refine jbu rfl rfl rfl rfl ?_)
  refine jb [0] hs rfl rfl rfl ⟨rfl, rfl, rfl, rfl, rfl, rfl⟩ rfl rfl rfl rfl ?_
  repeat (first | refine js rfl ?_ | (refine jdraw ?_ ?_; · kernel_rfl) | refine jbu rfl rfl rfl rfl ?_)
  exact jend [] true rfl rfl rfl ⟨rfl, rfl⟩
theorem lm_less (t : Thr) (s : Int) (i : Ins) (ha0 : 0 ≤ i.a) (ha8 : i.a < 8) (hb0 : 0 ≤ i.b) (hb8 : i.b < 8) (hc0 : 0 ≤ i.c) (hc8 : i.c < 8) : ACalls Tryz.prog 252 [.ptr 0 0] [.box 294 (lwC t s i)]
    (one (.tup []) [.box 294 (lwC (setR t i.a (cond (decide (rg t i.b < rg t i.c)) 1 0)) s i)]) := by
  have hs0 := lset_ok t s i 0 ha0 ha8
  have hs1 := lset_ok (setR t i.a 0) s i 1 ha0 ha8
  have h1 := lone_ok t s i hb0 hb8
  have h2 := ltwo_ok t s i hc0 hc8
  have hss : ∀ v w, lwC (setR (setR t i.a v) i.a w) s i = lwC (setR t i.a w) s i := fun v w => by
    rw [← lw_set (setR t i.a v) s i w ha0 ha8, ← lw_set t s i w ha0 ha8, ← lw_set t s i v ha0 ha8]
    rcases eight ha0 ha8 with e | e | e | e | e | e | e | e <;> rw [e] <;> rfl
  rw [hss] at hs1
  unfold lwC at *
  refine jcalls Tryz.func252 rfl (by kernel_rfl) Tryz.ntmps252 rfl rfl (fun w0 β0 ext hβ => ?_)
  repeat (first | refine js rfl ?_ | (refine jdraw ?_ ?_; · kernel_rfl) | refine jbu rfl rfl rfl rfl ?_)
  refine jb [0] h1 rfl rfl rfl ⟨rfl, rfl, rfl, rfl, rfl, rfl⟩ rfl rfl rfl rfl ?_
  repeat (first | refine js rfl ?_ | (refine jdraw ?_ ?_; · kernel_rfl) | refine jbu rfl rfl rfl rfl ?_)
  refine jb [0] h2 rfl rfl rfl ⟨rfl, rfl, rfl, rfl, rfl, rfl⟩ rfl rfl rfl rfl ?_
  repeat (first | refine js rfl ?_ | (refine jdraw ?_ ?_; · kernel_rfl) | refine jbu rfl rfl rfl rfl ?_)
  refine jb [0] hs0 rfl rfl rfl ⟨rfl, rfl, rfl, rfl, rfl, rfl⟩ rfl rfl rfl rfl ?_
  repeat (first | refine js rfl ?_ | (refine jdraw ?_ ?_; · kernel_rfl) | refine jbu rfl rfl rfl rfl ?_)
  cases hd : decide (rg t i.b < rg t i.c) with
  | false =>
    repeat (first | refine js rfl ?_ | (refine jdraw ?_ ?_; · kernel_rfl) | refine jbu rfl rfl rfl rfl ?_)
    exact jend [] true rfl rfl rfl ⟨rfl, rfl⟩
  | true =>
    repeat (first | refine js rfl ?_ | (refine jdraw ?_ ?_; · kernel_rfl) | refine jbu rfl rfl rfl rfl ?_)
    refine jb [0] hs1 rfl rfl rfl ⟨rfl, rfl, rfl, rfl, rfl, rfl⟩ rfl rfl rfl rfl ?_
    repeat (first | refine js rfl ?_ | (refine jdraw ?_ ?_; · kernel_rfl) | refine jbu rfl rfl rfl rfl ?_)
    exact jend [] true rfl rfl rfl ⟨rfl, rfl⟩
theorem lm_jump (t : Thr) (s : Int) (i : Ins) : ACalls Tryz.prog 253 [.ptr 0 0] [.box 294 (lwC t s i)] (one (.tup []) [.box 294 (lwC { t with pc := i.a } s i)]) := by
  unfold lwC
  refine jcalls Tryz.func253 rfl (by kernel_rfl) Tryz.ntmps253 rfl rfl (fun w0 β0 ext hβ => ?_)
  repeat (first | refine js rfl ?_ | (refine jdraw ?_ ?_; · kernel_rfl) | refine jbu rfl rfl rfl rfl ?_)
  exact jend [] true rfl rfl rfl ⟨rfl, rfl⟩
theorem lm_zero (t : Thr) (s : Int) (i : Ins) (ha0 : 0 ≤ i.a) (ha8 : i.a < 8) : ACalls Tryz.prog 254 [.ptr 0 0] [.box 294 (lwC t s i)] (one (.tup []) [.box 294 (lwC (cond (decide (rg t i.a = 0)) { t with pc := i.b } t) s i)]) := by
  have hg := lw_get t s i ha0 ha8
  have hd : (rg t i.a == 0) = decide (rg t i.a = 0) := rfl
  unfold lwC at *
  refine jcalls Tryz.func254 rfl (by kernel_rfl) Tryz.ntmps254 rfl rfl (fun w0 β0 ext hβ => ?_)
  repeat (first | refine js rfl ?_ | (refine jdraw ?_ ?_; · kernel_rfl) | refine jbu rfl rfl rfl rfl ?_ | refine jo rfl rfl (index_arr rfl rfl rfl rfl rfl ha0 ha8) rfl rfl ?_ | refine jo rfl rfl (load_dsem (r := ty3) rfl rfl rfl hg) rfl rfl ?_)
  rw [hd]
  cases decide (rg t i.a = 0)
  all_goals (
    repeat (first | refine js rfl ?_ | (refine jdraw ?_ ?_; · kernel_rfl) | refine jbu rfl rfl rfl rfl ?_)
  )
  all_goals exact jend [] true rfl rfl rfl ⟨rfl, rfl⟩
theorem lm_some (t : Thr) (s : Int) (i : Ins) (ha0 : 0 ≤ i.a) (ha8 : i.a < 8) : ACalls Tryz.prog 255 [.ptr 0 0] [.box 294 (lwC t s i)] (one (.tup []) [.box 294 (lwC (cond (decide (rg t i.a = 0)) t { t with pc := i.b }) s i)]) := by
  have hg := lw_get t s i ha0 ha8
  have hd : (rg t i.a != 0) = !decide (rg t i.a = 0) := rfl
  unfold lwC at *
  refine jcalls Tryz.func255 rfl (by kernel_rfl) Tryz.ntmps255 rfl rfl (fun w0 β0 ext hβ => ?_)
  repeat (first | refine js rfl ?_ | (refine jdraw ?_ ?_; · kernel_rfl) | refine jbu rfl rfl rfl rfl ?_ | refine jo rfl rfl (index_arr rfl rfl rfl rfl rfl ha0 ha8) rfl rfl ?_ | refine jo rfl rfl (load_dsem (r := ty3) rfl rfl rfl hg) rfl rfl ?_)
  rw [hd]
  cases decide (rg t i.a = 0)
  all_goals (
    repeat (first | refine js rfl ?_ | (refine jdraw ?_ ?_; · kernel_rfl) | refine jbu rfl rfl rfl rfl ?_)
  )
  all_goals exact jend [] true rfl rfl rfl ⟨rfl, rfl⟩
end Go.AL
end
section
set_option maxRecDepth 100000
namespace Go.AL
open Go Go.Proofs
attribute [local irreducible] J
theorem all_take1 {p : Int → Bool} {a b c : Int} (h : ([a, b, c].take 1).all p = true) : p a = true := by simpa using h
theorem all_take2 {p : Int → Bool} {a b c : Int} (h : ([a, b, c].take 2).all p = true) : p a = true ∧ p b = true := by simpa using h
theorem all_take3 {p : Int → Bool} {a b c : Int} (h : ([a, b, c].take 3).all p = true) : p a = true ∧ p b = true ∧ p c = true := by simpa using h
theorem inn7 {v : Int} (h : inn v 0 7 = true) : 0 ≤ v ∧ v < 8 := by have := inn_iff.1 h; omega
theorem inn15 {v : Int} (h : inn v 1 15 = true) : v = 1 ∨ v = 2 ∨ v = 3 ∨ v = 4 ∨ v = 5 ∨ v = 6 ∨ v = 7 ∨ v = 8 ∨ v = 9 ∨ v = 10 ∨ v = 11 ∨ v = 12 ∨ v = 13 ∨ v = 14 ∨ v = 15 := by
  have := inn_iff.1 h; omega
theorem loReady_of (t : Thr) (s : Int) : loReady t s = 1 ∨ loReady t s = 9 ∨ (loReady t s = 0 ∧ thRight t = true) := by
  unfold loReady
  cases thRight t <;> cases inn s 0 7 <;> cases decide (t.state = 0) <;> cases decide (0 < t.left.length) <;> simp
def loGo (s : Int) (i : Ins) (t : Thr) : Thr × Int :=
  cond (!loMay i) (thr0, 3) (cond (decide (i.op = 13)) (frCall t i.a) (cond (decide (i.op = 14)) (frBack t) (loDo s i { t with pc := t.pc + 1 }, 0)))
theorem ap_1 (t : Thr) (s a b c : Int) (hf : t.frames.length ≤ 1000) (hl : t.left.length ≤ 1000000) (hr : loReady t s = 0) (hp : 0 ≤ t.pc ∧ t.pc ≤ 1000) (h10 : (t.pc == 1000) = false) :
    ACalls Tryz.prog 182 [encThr t, iv s, .agg [iv 1, iv a, iv b, iv c]] [] (one (.tup [resThr (loGo s ⟨1, a, b, c⟩ t), iv (loGo s ⟨1, a, b, c⟩ t).2]) []) := by
  have h1 := ready_ok t s (by omega) hl
  rw [hr] at h1
  have h2 := lin_ok 1 1 15
  have h3 := all_ok
  have h4 : ACalls Tryz.prog 217 [.agg [iv 1, iv (-1), fnA 244], .agg [iv 1, iv a, iv b, iv c]] [] (one (bv (loMay ⟨1, a, b, c⟩)) []) := lmay_ok 1 (-1) (fnA 244) ⟨1, a, b, c⟩ (by decide) (by decide) (.inr ⟨_, rfl⟩)
  have hw : IntKind.i64.wrap (t.pc + 1) = t.pc + 1 := by rw [wrap_id] <;> omega
  unfold loGo
  unfold encThr thCells at *
  cases hm : loMay ⟨1, a, b, c⟩ with
  | false =>
    rw [hm] at h4
    refine jcalls Tryz.func182 rfl (by kernel_rfl) Tryz.ntmps182 rfl rfl (fun w0 β0 ext hβ => ?_)
    repeat (first | refine js rfl ?_ | (refine jdraw ?_ ?_; · kernel_rfl) | refine jbu rfl rfl rfl rfl ?_ | refine jv h1 rfl rfl rfl rfl rfl ?_)
    rw [h10]
    repeat (first | refine js rfl ?_ | (refine jdraw ?_ ?_; · kernel_rfl) | refine jbu rfl rfl rfl rfl ?_ | refine jv h3 rfl rfl rfl rfl rfl ?_ | refine jv h2 rfl rfl rfl rfl rfl ?_ | refine jo rfl rfl (index_arr rfl rfl rfl rfl rfl (by decide) (by decide)) rfl rfl ?_ | refine jv h4 rfl rfl rfl rfl rfl ?_)
    exact jr rfl rfl rfl rfl
  | true =>
    rw [hm] at h4
    have hm2 := (Bool.and_eq_true _ _ ▸ (show (([a, b, c].take 1).all (fun k => inn k 0 7) && _) = true from hm)).1
    have ra := inn7 (all_take1 (p := fun k => inn k 0 7) hm2)
    have h5 := lm_load { t with pc := t.pc + 1 } s ⟨1, a, b, c⟩ ra.1 ra.2
    unfold lwC at h5
    refine jcalls Tryz.func182 rfl (by kernel_rfl) Tryz.ntmps182 rfl rfl (fun w0 β0 ext hβ => ?_)
    repeat (first | refine js rfl ?_ | (refine jdraw ?_ ?_; · kernel_rfl) | refine jbu rfl rfl rfl rfl ?_ | refine jv h1 rfl rfl rfl rfl rfl ?_)
    rw [h10]
    repeat (first | refine js rfl ?_ | (refine jdraw ?_ ?_; · kernel_rfl) | refine jbu rfl rfl rfl rfl ?_ | refine jv h3 rfl rfl rfl rfl rfl ?_ | refine jv h2 rfl rfl rfl rfl rfl ?_ | refine jo rfl rfl (index_arr rfl rfl rfl rfl rfl (by decide) (by decide)) rfl rfl ?_ | refine jv h4 rfl rfl rfl rfl rfl ?_)
    rw [hw]
    repeat (first | refine js rfl ?_ | (refine jdraw ?_ ?_; · kernel_rfl) | refine jbu rfl rfl rfl rfl ?_ | refine jo rfl rfl (index_arr rfl rfl rfl rfl rfl (by decide) (by decide)) rfl rfl ?_)
    refine jb [4] h5 rfl rfl rfl ⟨rfl, rfl, rfl, rfl, rfl, rfl⟩ rfl rfl rfl rfl ?_
    repeat (first | refine js rfl ?_ | (refine jdraw ?_ ?_; · kernel_rfl) | refine jbu rfl rfl rfl rfl ?_)
    exact jr rfl rfl rfl rfl
theorem ap_2 (t : Thr) (s a b c : Int) (hf : t.frames.length ≤ 1000) (hl : t.left.length ≤ 1000000) (hr : loReady t s = 0) (hp : 0 ≤ t.pc ∧ t.pc ≤ 1000) (h10 : (t.pc == 1000) = false) :
    ACalls Tryz.prog 182 [encThr t, iv s, .agg [iv 2, iv a, iv b, iv c]] [] (one (.tup [resThr (loGo s ⟨2, a, b, c⟩ t), iv (loGo s ⟨2, a, b, c⟩ t).2]) []) := by
  have h1 := ready_ok t s (by omega) hl
  rw [hr] at h1
  have h2 := lin_ok 2 1 15
  have h3 := all_ok
  have h4 : ACalls Tryz.prog 217 [.agg [iv 2, iv (-1), fnA 245], .agg [iv 2, iv a, iv b, iv c]] [] (one (bv (loMay ⟨2, a, b, c⟩)) []) := lmay_ok 2 (-1) (fnA 245) ⟨2, a, b, c⟩ (by decide) (by decide) (.inr ⟨_, rfl⟩)
  have hw : IntKind.i64.wrap (t.pc + 1) = t.pc + 1 := by rw [wrap_id] <;> omega
  unfold loGo
  unfold encThr thCells at *
  cases hm : loMay ⟨2, a, b, c⟩ with
  | false =>
    rw [hm] at h4
    refine jcalls Tryz.func182 rfl (by kernel_rfl) Tryz.ntmps182 rfl rfl (fun w0 β0 ext hβ => ?_)
    repeat (first | refine js rfl ?_ | (refine jdraw ?_ ?_; · kernel_rfl) | refine jbu rfl rfl rfl rfl ?_ | refine jv h1 rfl rfl rfl rfl rfl ?_)
    rw [h10]
    repeat (first | refine js rfl ?_ | (refine jdraw ?_ ?_; · kernel_rfl) | refine jbu rfl rfl rfl rfl ?_ | refine jv h3 rfl rfl rfl rfl rfl ?_ | refine jv h2 rfl rfl rfl rfl rfl ?_ | refine jo rfl rfl (index_arr rfl rfl rfl rfl rfl (by decide) (by decide)) rfl rfl ?_ | refine jv h4 rfl rfl rfl rfl rfl ?_)
    exact jr rfl rfl rfl rfl
  | true =>
    rw [hm] at h4
    have hm2 := (Bool.and_eq_true _ _ ▸ (show (([a, b, c].take 2).all (fun k => inn k 0 7) && _) = true from hm)).1
    obtain ⟨ra, rb⟩ := all_take2 (p := fun k => inn k 0 7) hm2
    have ra := inn7 ra
    have rb := inn7 rb
    have h5 := lm_move { t with pc := t.pc + 1 } s ⟨2, a, b, c⟩ ra.1 ra.2 rb.1 rb.2
    unfold lwC at h5
    refine jcalls Tryz.func182 rfl (by kernel_rfl) Tryz.ntmps182 rfl rfl (fun w0 β0 ext hβ => ?_)
    repeat (first | refine js rfl ?_ | (refine jdraw ?_ ?_; · kernel_rfl) | refine jbu rfl rfl rfl rfl ?_ | refine jv h1 rfl rfl rfl rfl rfl ?_)
    rw [h10]
    repeat (first | refine js rfl ?_ | (refine jdraw ?_ ?_; · kernel_rfl) | refine jbu rfl rfl rfl rfl ?_ | refine jv h3 rfl rfl rfl rfl rfl ?_ | refine jv h2 rfl rfl rfl rfl rfl ?_ | refine jo rfl rfl (index_arr rfl rfl rfl rfl rfl (by decide) (by decide)) rfl rfl ?_ | refine jv h4 rfl rfl rfl rfl rfl ?_)
    rw [hw]
    repeat (first | refine js rfl ?_ | (refine jdraw ?_ ?_; · kernel_rfl) | refine jbu rfl rfl rfl rfl ?_ | refine jo rfl rfl (index_arr rfl rfl rfl rfl rfl (by decide) (by decide)) rfl rfl ?_)
    refine jb [4] h5 rfl rfl rfl ⟨rfl, rfl, rfl, rfl, rfl, rfl⟩ rfl rfl rfl rfl ?_
    repeat (first | refine js rfl ?_ | (refine jdraw ?_ ?_; · kernel_rfl) | refine jbu rfl rfl rfl rfl ?_)
    exact jr rfl rfl rfl rfl
theorem ap_3 (t : Thr) (s a b c : Int) (hf : t.frames.length ≤ 1000) (hl : t.left.length ≤ 1000000) (hr : loReady t s = 0) (hp : 0 ≤ t.pc ∧ t.pc ≤ 1000) (h10 : (t.pc == 1000) = false) :
    ACalls Tryz.prog 182 [encThr t, iv s, .agg [iv 3, iv a, iv b, iv c]] [] (one (.tup [resThr (loGo s ⟨3, a, b, c⟩ t), iv (loGo s ⟨3, a, b, c⟩ t).2]) []) := by
  have h1 := ready_ok t s (by omega) hl
  rw [hr] at h1
  have h2 := lin_ok 3 1 15
  have h3 := all_ok
  have h4 : ACalls Tryz.prog 217 [.agg [iv 2, iv (-1), fnA 246], .agg [iv 3, iv a, iv b, iv c]] [] (one (bv (loMay ⟨3, a, b, c⟩)) []) := lmay_ok 2 (-1) (fnA 246) ⟨3, a, b, c⟩ (by decide) (by decide) (.inr ⟨_, rfl⟩)
  have hw : IntKind.i64.wrap (t.pc + 1) = t.pc + 1 := by rw [wrap_id] <;> omega
  unfold loGo
  unfold encThr thCells at *
  cases hm : loMay ⟨3, a, b, c⟩ with
  | false =>
    rw [hm] at h4
    refine jcalls Tryz.func182 rfl (by kernel_rfl) Tryz.ntmps182 rfl rfl (fun w0 β0 ext hβ => ?_)
    repeat (first | refine js rfl ?_ | (refine jdraw ?_ ?_; · kernel_rfl) | refine jbu rfl rfl rfl rfl ?_ | refine jv h1 rfl rfl rfl rfl rfl ?_)
    rw [h10]
    repeat (first | refine js rfl ?_ | (refine jdraw ?_ ?_; · kernel_rfl) | refine jbu rfl rfl rfl rfl ?_ | refine jv h3 rfl rfl rfl rfl rfl ?_ | refine jv h2 rfl rfl rfl rfl rfl ?_ | refine jo rfl rfl (index_arr rfl rfl rfl rfl rfl (by decide) (by decide)) rfl rfl ?_ | refine jv h4 rfl rfl rfl rfl rfl ?_)
    exact jr rfl rfl rfl rfl
  | true =>
    rw [hm] at h4
    have hm2 := (Bool.and_eq_true _ _ ▸ (show (([a, b, c].take 2).all (fun k => inn k 0 7) && _) = true from hm)).1
    obtain ⟨ra, rb⟩ := all_take2 (p := fun k => inn k 0 7) hm2
    have ra := inn7 ra
    have rb := inn7 rb
    have h5 := lm_plus { t with pc := t.pc + 1 } s ⟨3, a, b, c⟩ ra.1 ra.2 rb.1 rb.2
    unfold lwC at h5
    refine jcalls Tryz.func182 rfl (by kernel_rfl) Tryz.ntmps182 rfl rfl (fun w0 β0 ext hβ => ?_)
    repeat (first | refine js rfl ?_ | (refine jdraw ?_ ?_; · kernel_rfl) | refine jbu rfl rfl rfl rfl ?_ | refine jv h1 rfl rfl rfl rfl rfl ?_)
    rw [h10]
    repeat (first | refine js rfl ?_ | (refine jdraw ?_ ?_; · kernel_rfl) | refine jbu rfl rfl rfl rfl ?_ | refine jv h3 rfl rfl rfl rfl rfl ?_ | refine jv h2 rfl rfl rfl rfl rfl ?_ | refine jo rfl rfl (index_arr rfl rfl rfl rfl rfl (by decide) (by decide)) rfl rfl ?_ | refine jv h4 rfl rfl rfl rfl rfl ?_)
    rw [hw]
    repeat (first | refine js rfl ?_ | (refine jdraw ?_ ?_; · kernel_rfl) | refine jbu rfl rfl rfl rfl ?_ | refine jo rfl rfl (index_arr rfl rfl rfl rfl rfl (by decide) (by decide)) rfl rfl ?_)
    refine jb [4] h5 rfl rfl rfl ⟨rfl, rfl, rfl, rfl, rfl, rfl⟩ rfl rfl rfl rfl ?_
    repeat (first | refine js rfl ?_ | (refine jdraw ?_ ?_; · kernel_rfl) | refine jbu rfl rfl rfl rfl ?_)
    exact jr rfl rfl rfl rfl
theorem ap_4 (t : Thr) (s a b c : Int) (hf : t.frames.length ≤ 1000) (hl : t.left.length ≤ 1000000) (hr : loReady t s = 0) (hp : 0 ≤ t.pc ∧ t.pc ≤ 1000) (h10 : (t.pc == 1000) = false) :
    ACalls Tryz.prog 182 [encThr t, iv s, .agg [iv 4, iv a, iv b, iv c]] [] (one (.tup [resThr (loGo s ⟨4, a, b, c⟩ t), iv (loGo s ⟨4, a, b, c⟩ t).2]) []) := by
  have h1 := ready_ok t s (by omega) hl
  rw [hr] at h1
  have h2 := lin_ok 4 1 15
  have h3 := all_ok
  have h4 : ACalls Tryz.prog 217 [.agg [iv 2, iv (-1), fnA 247], .agg [iv 4, iv a, iv b, iv c]] [] (one (bv (loMay ⟨4, a, b, c⟩)) []) := lmay_ok 2 (-1) (fnA 247) ⟨4, a, b, c⟩ (by decide) (by decide) (.inr ⟨_, rfl⟩)
  have hw : IntKind.i64.wrap (t.pc + 1) = t.pc + 1 := by rw [wrap_id] <;> omega
  unfold loGo
  unfold encThr thCells at *
  cases hm : loMay ⟨4, a, b, c⟩ with
  | false =>
    rw [hm] at h4
    refine jcalls Tryz.func182 rfl (by kernel_rfl) Tryz.ntmps182 rfl rfl (fun w0 β0 ext hβ => ?_)
    repeat (first | refine js rfl ?_ | (refine jdraw ?_ ?_; · kernel_rfl) | refine jbu rfl rfl rfl rfl ?_ | refine jv h1 rfl rfl rfl rfl rfl ?_)
    rw [h10]
    repeat (first | refine js rfl ?_ | (refine jdraw ?_ ?_; · kernel_rfl) | refine jbu rfl rfl rfl rfl ?_ | refine jv h3 rfl rfl rfl rfl rfl ?_ | refine jv h2 rfl rfl rfl rfl rfl ?_ | refine jo rfl rfl (index_arr rfl rfl rfl rfl rfl (by decide) (by decide)) rfl rfl ?_ | refine jv h4 rfl rfl rfl rfl rfl ?_)
    exact jr rfl rfl rfl rfl
  | true =>
    rw [hm] at h4
    have hm2 := (Bool.and_eq_true _ _ ▸ (show (([a, b, c].take 2).all (fun k => inn k 0 7) && _) = true from hm)).1
    obtain ⟨ra, rb⟩ := all_take2 (p := fun k => inn k 0 7) hm2
    have ra := inn7 ra
    have rb := inn7 rb
    have h5 := lm_mask { t with pc := t.pc + 1 } s ⟨4, a, b, c⟩ ra.1 ra.2 rb.1 rb.2
    unfold lwC at h5
    refine jcalls Tryz.func182 rfl (by kernel_rfl) Tryz.ntmps182 rfl rfl (fun w0 β0 ext hβ => ?_)
    repeat (first | refine js rfl ?_ | (refine jdraw ?_ ?_; · kernel_rfl) | refine jbu rfl rfl rfl rfl ?_ | refine jv h1 rfl rfl rfl rfl rfl ?_)
    rw [h10]
    repeat (first | refine js rfl ?_ | (refine jdraw ?_ ?_; · kernel_rfl) | refine jbu rfl rfl rfl rfl ?_ | refine jv h3 rfl rfl rfl rfl rfl ?_ | refine jv h2 rfl rfl rfl rfl rfl ?_ | refine jo rfl rfl (index_arr rfl rfl rfl rfl rfl (by decide) (by decide)) rfl rfl ?_ | refine jv h4 rfl rfl rfl rfl rfl ?_)
    rw [hw]
    repeat (first | refine js rfl ?_ | (refine jdraw ?_ ?_; · kernel_rfl) | refine jbu rfl rfl rfl rfl ?_ | refine jo rfl rfl (index_arr rfl rfl rfl rfl rfl (by decide) (by decide)) rfl rfl ?_)
    refine jb [4] h5 rfl rfl rfl ⟨rfl, rfl, rfl, rfl, rfl, rfl⟩ rfl rfl rfl rfl ?_
    repeat (first | refine js rfl ?_ | (refine jdraw ?_ ?_; · kernel_rfl) | refine jbu rfl rfl rfl rfl ?_)
    exact jr rfl rfl rfl rfl
theorem ap_5 (t : Thr) (s a b c : Int) (hf : t.frames.length ≤ 1000) (hl : t.left.length ≤ 1000000) (hr : loReady t s = 0) (hp : 0 ≤ t.pc ∧ t.pc ≤ 1000) (h10 : (t.pc == 1000) = false) :
    ACalls Tryz.prog 182 [encThr t, iv s, .agg [iv 5, iv a, iv b, iv c]] [] (one (.tup [resThr (loGo s ⟨5, a, b, c⟩ t), iv (loGo s ⟨5, a, b, c⟩ t).2]) []) := by
  have h1 := ready_ok t s (by omega) hl
  rw [hr] at h1
  have h2 := lin_ok 5 1 15
  have h3 := all_ok
  have h4 : ACalls Tryz.prog 217 [.agg [iv 3, iv (-1), fnA 248], .agg [iv 5, iv a, iv b, iv c]] [] (one (bv (loMay ⟨5, a, b, c⟩)) []) := lmay_ok 3 (-1) (fnA 248) ⟨5, a, b, c⟩ (by decide) (by decide) (.inr ⟨_, rfl⟩)
  have hw : IntKind.i64.wrap (t.pc + 1) = t.pc + 1 := by rw [wrap_id] <;> omega
  unfold loGo
  unfold encThr thCells at *
  cases hm : loMay ⟨5, a, b, c⟩ with
  | false =>
    rw [hm] at h4
    refine jcalls Tryz.func182 rfl (by kernel_rfl) Tryz.ntmps182 rfl rfl (fun w0 β0 ext hβ => ?_)
    repeat (first | refine js rfl ?_ | (refine jdraw ?_ ?_; · kernel_rfl) | refine jbu rfl rfl rfl rfl ?_ | refine jv h1 rfl rfl rfl rfl rfl ?_)
    rw [h10]
    repeat (first | refine js rfl ?_ | (refine jdraw ?_ ?_; · kernel_rfl) | refine jbu rfl rfl rfl rfl ?_ | refine jv h3 rfl rfl rfl rfl rfl ?_ | refine jv h2 rfl rfl rfl rfl rfl ?_ | refine jo rfl rfl (index_arr rfl rfl rfl rfl rfl (by decide) (by decide)) rfl rfl ?_ | refine jv h4 rfl rfl rfl rfl rfl ?_)
    exact jr rfl rfl rfl rfl
  | true =>
    rw [hm] at h4
    have hm2 := (Bool.and_eq_true _ _ ▸ (show (([a, b, c].take 3).all (fun k => inn k 0 7) && _) = true from hm)).1
    obtain ⟨ra, rb, rc⟩ := all_take3 (p := fun k => inn k 0 7) hm2
    have ra := inn7 ra
    have rb := inn7 rb
    have rc := inn7 rc
    have h5 := lm_add { t with pc := t.pc + 1 } s ⟨5, a, b, c⟩ ra.1 ra.2 rb.1 rb.2 rc.1 rc.2
    unfold lwC at h5
    refine jcalls Tryz.func182 rfl (by kernel_rfl) Tryz.ntmps182 rfl rfl (fun w0 β0 ext hβ => ?_)
    repeat (first | refine js rfl ?_ | (refine jdraw ?_ ?_; · kernel_rfl) | refine jbu rfl rfl rfl rfl ?_ | refine jv h1 rfl rfl rfl rfl rfl ?_)
    rw [h10]
    repeat (first | refine js rfl ?_ | (refine jdraw ?_ ?_; · kernel_rfl) | refine jbu rfl rfl rfl rfl ?_ | refine jv h3 rfl rfl rfl rfl rfl ?_ | refine jv h2 rfl rfl rfl rfl rfl ?_ | refine jo rfl rfl (index_arr rfl rfl rfl rfl rfl (by decide) (by decide)) rfl rfl ?_ | refine jv h4 rfl rfl rfl rfl rfl ?_)
    rw [hw]
    repeat (first | refine js rfl ?_ | (refine jdraw ?_ ?_; · kernel_rfl) | refine jbu rfl rfl rfl rfl ?_ | refine jo rfl rfl (index_arr rfl rfl rfl rfl rfl (by decide) (by decide)) rfl rfl ?_)
    refine jb [4] h5 rfl rfl rfl ⟨rfl, rfl, rfl, rfl, rfl, rfl⟩ rfl rfl rfl rfl ?_
    repeat (first | refine js rfl ?_ | (refine jdraw ?_ ?_; · kernel_rfl) | refine jbu rfl rfl rfl rfl ?_)
    exact jr rfl rfl rfl rfl
theorem ap_6 (t : Thr) (s a b c : Int) (hf : t.frames.length ≤ 1000) (hl : t.left.length ≤ 1000000) (hr : loReady t s = 0) (hp : 0 ≤ t.pc ∧ t.pc ≤ 1000) (h10 : (t.pc == 1000) = false) :
    ACalls Tryz.prog 182 [encThr t, iv s, .agg [iv 6, iv a, iv b, iv c]] [] (one (.tup [resThr (loGo s ⟨6, a, b, c⟩ t), iv (loGo s ⟨6, a, b, c⟩ t).2]) []) := by
  have h1 := ready_ok t s (by omega) hl
  rw [hr] at h1
  have h2 := lin_ok 6 1 15
  have h3 := all_ok
  have h4 : ACalls Tryz.prog 217 [.agg [iv 3, iv (-1), fnA 249], .agg [iv 6, iv a, iv b, iv c]] [] (one (bv (loMay ⟨6, a, b, c⟩)) []) := lmay_ok 3 (-1) (fnA 249) ⟨6, a, b, c⟩ (by decide) (by decide) (.inr ⟨_, rfl⟩)
  have hw : IntKind.i64.wrap (t.pc + 1) = t.pc + 1 := by rw [wrap_id] <;> omega
  unfold loGo
  unfold encThr thCells at *
  cases hm : loMay ⟨6, a, b, c⟩ with
  | false =>
    rw [hm] at h4
    refine jcalls Tryz.func182 rfl (by kernel_rfl) Tryz.ntmps182 rfl rfl (fun w0 β0 ext hβ => ?_)
    repeat (first | refine js rfl ?_ | (refine jdraw ?_ ?_; · kernel_rfl) | refine jbu rfl rfl rfl rfl ?_ | refine jv h1 rfl rfl rfl rfl rfl ?_)
    rw [h10]
    repeat (first | refine js rfl ?_ | (refine jdraw ?_ ?_; · kernel_rfl) | refine jbu rfl rfl rfl rfl ?_ | refine jv h3 rfl rfl rfl rfl rfl ?_ | refine jv h2 rfl rfl rfl rfl rfl ?_ | refine jo rfl rfl (index_arr rfl rfl rfl rfl rfl (by decide) (by decide)) rfl rfl ?_ | refine jv h4 rfl rfl rfl rfl rfl ?_)
    exact jr rfl rfl rfl rfl
  | true =>
    rw [hm] at h4
    have hm2 := (Bool.and_eq_true _ _ ▸ (show (([a, b, c].take 3).all (fun k => inn k 0 7) && _) = true from hm)).1
    obtain ⟨ra, rb, rc⟩ := all_take3 (p := fun k => inn k 0 7) hm2
    have ra := inn7 ra
    have rb := inn7 rb
    have rc := inn7 rc
    have h5 := lm_sub { t with pc := t.pc + 1 } s ⟨6, a, b, c⟩ ra.1 ra.2 rb.1 rb.2 rc.1 rc.2
    unfold lwC at h5
    refine jcalls Tryz.func182 rfl (by kernel_rfl) Tryz.ntmps182 rfl rfl (fun w0 β0 ext hβ => ?_)
    repeat (first | refine js rfl ?_ | (refine jdraw ?_ ?_; · kernel_rfl) | refine jbu rfl rfl rfl rfl ?_ | refine jv h1 rfl rfl rfl rfl rfl ?_)
    rw [h10]
    repeat (first | refine js rfl ?_ | (refine jdraw ?_ ?_; · kernel_rfl) | refine jbu rfl rfl rfl rfl ?_ | refine jv h3 rfl rfl rfl rfl rfl ?_ | refine jv h2 rfl rfl rfl rfl rfl ?_ | refine jo rfl rfl (index_arr rfl rfl rfl rfl rfl (by decide) (by decide)) rfl rfl ?_ | refine jv h4 rfl rfl rfl rfl rfl ?_)
    rw [hw]
    repeat (first | refine js rfl ?_ | (refine jdraw ?_ ?_; · kernel_rfl) | refine jbu rfl rfl rfl rfl ?_ | refine jo rfl rfl (index_arr rfl rfl rfl rfl rfl (by decide) (by decide)) rfl rfl ?_)
    refine jb [4] h5 rfl rfl rfl ⟨rfl, rfl, rfl, rfl, rfl, rfl⟩ rfl rfl rfl rfl ?_
    repeat (first | refine js rfl ?_ | (refine jdraw ?_ ?_; · kernel_rfl) | refine jbu rfl rfl rfl rfl ?_)
    exact jr rfl rfl rfl rfl
theorem ap_7 (t : Thr) (s a b c : Int) (hf : t.frames.length ≤ 1000) (hl : t.left.length ≤ 1000000) (hr : loReady t s = 0) (hp : 0 ≤ t.pc ∧ t.pc ≤ 1000) (h10 : (t.pc == 1000) = false) :
    ACalls Tryz.prog 182 [encThr t, iv s, .agg [iv 7, iv a, iv b, iv c]] [] (one (.tup [resThr (loGo s ⟨7, a, b, c⟩ t), iv (loGo s ⟨7, a, b, c⟩ t).2]) []) := by
  have h1 := ready_ok t s (by omega) hl
  rw [hr] at h1
  have h2 := lin_ok 7 1 15
  have h3 := all_ok
  have h4 : ACalls Tryz.prog 217 [.agg [iv 3, iv (-1), fnA 250], .agg [iv 7, iv a, iv b, iv c]] [] (one (bv (loMay ⟨7, a, b, c⟩)) []) := lmay_ok 3 (-1) (fnA 250) ⟨7, a, b, c⟩ (by decide) (by decide) (.inr ⟨_, rfl⟩)
  have hw : IntKind.i64.wrap (t.pc + 1) = t.pc + 1 := by rw [wrap_id] <;> omega
  unfold loGo
  unfold encThr thCells at *
  cases hm : loMay ⟨7, a, b, c⟩ with
  | false =>
    rw [hm] at h4
    refine jcalls Tryz.func182 rfl (by kernel_rfl) Tryz.ntmps182 rfl rfl (fun w0 β0 ext hβ => ?_)
    repeat (first | refine js rfl ?_ | (refine jdraw ?_ ?_; · kernel_rfl) | refine jbu rfl rfl rfl rfl ?_ | refine jv h1 rfl rfl rfl rfl rfl ?_)
    rw [h10]
    repeat (first | refine js rfl ?_ | (refine jdraw ?_ ?_; · kernel_rfl) | refine jbu rfl rfl rfl rfl ?_ | refine jv h3 rfl rfl rfl rfl rfl ?_ | refine jv h2 rfl rfl rfl rfl rfl ?_ | refine jo rfl rfl (index_arr rfl rfl rfl rfl rfl (by decide) (by decide)) rfl rfl ?_ | refine jv h4 rfl rfl rfl rfl rfl ?_)
    exact jr rfl rfl rfl rfl
  | true =>
    rw [hm] at h4
    have hm2 := (Bool.and_eq_true _ _ ▸ (show (([a, b, c].take 3).all (fun k => inn k 0 7) && _) = true from hm)).1
    obtain ⟨ra, rb, rc⟩ := all_take3 (p := fun k => inn k 0 7) hm2
    have ra := inn7 ra
    have rb := inn7 rb
    have rc := inn7 rc
    have h5 := lm_and { t with pc := t.pc + 1 } s ⟨7, a, b, c⟩ ra.1 ra.2 rb.1 rb.2 rc.1 rc.2
    unfold lwC at h5
    refine jcalls Tryz.func182 rfl (by kernel_rfl) Tryz.ntmps182 rfl rfl (fun w0 β0 ext hβ => ?_)
    repeat (first | refine js rfl ?_ | (refine jdraw ?_ ?_; · kernel_rfl) | refine jbu rfl rfl rfl rfl ?_ | refine jv h1 rfl rfl rfl rfl rfl ?_)
    rw [h10]
    repeat (first | refine js rfl ?_ | (refine jdraw ?_ ?_; · kernel_rfl) | refine jbu rfl rfl rfl rfl ?_ | refine jv h3 rfl rfl rfl rfl rfl ?_ | refine jv h2 rfl rfl rfl rfl rfl ?_ | refine jo rfl rfl (index_arr rfl rfl rfl rfl rfl (by decide) (by decide)) rfl rfl ?_ | refine jv h4 rfl rfl rfl rfl rfl ?_)
    rw [hw]
    repeat (first | refine js rfl ?_ | (refine jdraw ?_ ?_; · kernel_rfl) | refine jbu rfl rfl rfl rfl ?_ | refine jo rfl rfl (index_arr rfl rfl rfl rfl rfl (by decide) (by decide)) rfl rfl ?_)
    refine jb [4] h5 rfl rfl rfl ⟨rfl, rfl, rfl, rfl, rfl, rfl⟩ rfl rfl rfl rfl ?_
    repeat (first | refine js rfl ?_ | (refine jdraw ?_ ?_; · kernel_rfl) | refine jbu rfl rfl rfl rfl ?_)
    exact jr rfl rfl rfl rfl
theorem ap_8 (t : Thr) (s a b c : Int) (hf : t.frames.length ≤ 1000) (hl : t.left.length ≤ 1000000) (hr : loReady t s = 0) (hp : 0 ≤ t.pc ∧ t.pc ≤ 1000) (h10 : (t.pc == 1000) = false) :
    ACalls Tryz.prog 182 [encThr t, iv s, .agg [iv 8, iv a, iv b, iv c]] [] (one (.tup [resThr (loGo s ⟨8, a, b, c⟩ t), iv (loGo s ⟨8, a, b, c⟩ t).2]) []) := by
  have h1 := ready_ok t s (by omega) hl
  rw [hr] at h1
  have h2 := lin_ok 8 1 15
  have h3 := all_ok
  have h4 : ACalls Tryz.prog 217 [.agg [iv 3, iv (-1), fnA 251], .agg [iv 8, iv a, iv b, iv c]] [] (one (bv (loMay ⟨8, a, b, c⟩)) []) := lmay_ok 3 (-1) (fnA 251) ⟨8, a, b, c⟩ (by decide) (by decide) (.inr ⟨_, rfl⟩)
  have hw : IntKind.i64.wrap (t.pc + 1) = t.pc + 1 := by rw [wrap_id] <;> omega
  unfold loGo
  unfold encThr thCells at *
  cases hm : loMay ⟨8, a, b, c⟩ with
  | false =>
    rw [hm] at h4
    refine jcalls Tryz.func182 rfl (by kernel_rfl) Tryz.ntmps182 rfl rfl (fun w0 β0 ext hβ => ?_)
    repeat (first | refine js rfl ?_ | (refine jdraw ?_ ?_; · kernel_rfl) | refine jbu rfl rfl rfl rfl ?_ | refine jv h1 rfl rfl rfl rfl rfl ?_)
    rw [h10]
    repeat (first | refine js rfl ?_ | (refine jdraw ?_ ?_; · kernel_rfl) | refine jbu rfl rfl rfl rfl ?_ | refine jv h3 rfl rfl rfl rfl rfl ?_ | refine jv h2 rfl rfl rfl rfl rfl ?_ | refine jo rfl rfl (index_arr rfl rfl rfl rfl rfl (by decide) (by decide)) rfl rfl ?_ | refine jv h4 rfl rfl rfl rfl rfl ?_)
    exact jr rfl rfl rfl rfl
  | true =>
    rw [hm] at h4
    have hm2 := (Bool.and_eq_true _ _ ▸ (show (([a, b, c].take 3).all (fun k => inn k 0 7) && _) = true from hm)).1
    obtain ⟨ra, rb, rc⟩ := all_take3 (p := fun k => inn k 0 7) hm2
    have ra := inn7 ra
    have rb := inn7 rb
    have rc := inn7 rc
    have h5 := lm_xor { t with pc := t.pc + 1 } s ⟨8, a, b, c⟩ ra.1 ra.2 rb.1 rb.2 rc.1 rc.2
    unfold lwC at h5
    refine jcalls Tryz.func182 rfl (by kernel_rfl) Tryz.ntmps182 rfl rfl (fun w0 β0 ext hβ => ?_)
    repeat (first | refine js rfl ?_ | (refine jdraw ?_ ?_; · kernel_rfl) | refine jbu rfl rfl rfl rfl ?_ | refine jv h1 rfl rfl rfl rfl rfl ?_)
    rw [h10]
    repeat (first | refine js rfl ?_ | (refine jdraw ?_ ?_; · kernel_rfl) | refine jbu rfl rfl rfl rfl ?_ | refine jv h3 rfl rfl rfl rfl rfl ?_ | refine jv h2 rfl rfl rfl rfl rfl ?_ | refine jo rfl rfl (index_arr rfl rfl rfl rfl rfl (by decide) (by decide)) rfl rfl ?_ | refine jv h4 rfl rfl rfl rfl rfl ?_)
    rw [hw]
    repeat (first | refine js rfl ?_ | (refine jdraw ?_ ?_; · kernel_rfl) | refine jbu rfl rfl rfl rfl ?_ | refine jo rfl rfl (index_arr rfl rfl rfl rfl rfl (by decide) (by decide)) rfl rfl ?_)
    refine jb [4] h5 rfl rfl rfl ⟨rfl, rfl, rfl, rfl, rfl, rfl⟩ rfl rfl rfl rfl ?_
    repeat (first | refine js rfl ?_ | (refine jdraw ?_ ?_; · kernel_rfl) | refine jbu rfl rfl rfl rfl ?_)
    exact jr rfl rfl rfl rfl
theorem ap_9 (t : Thr) (s a b c : Int) (hf : t.frames.length ≤ 1000) (hl : t.left.length ≤ 1000000) (hr : loReady t s = 0) (hp : 0 ≤ t.pc ∧ t.pc ≤ 1000) (h10 : (t.pc == 1000) = false) :
    ACalls Tryz.prog 182 [encThr t, iv s, .agg [iv 9, iv a, iv b, iv c]] [] (one (.tup [resThr (loGo s ⟨9, a, b, c⟩ t), iv (loGo s ⟨9, a, b, c⟩ t).2]) []) := by
  have h1 := ready_ok t s (by omega) hl
  rw [hr] at h1
  have h2 := lin_ok 9 1 15
  have h3 := all_ok
  have h4 : ACalls Tryz.prog 217 [.agg [iv 3, iv (-1), fnA 252], .agg [iv 9, iv a, iv b, iv c]] [] (one (bv (loMay ⟨9, a, b, c⟩)) []) := lmay_ok 3 (-1) (fnA 252) ⟨9, a, b, c⟩ (by decide) (by decide) (.inr ⟨_, rfl⟩)
  have hw : IntKind.i64.wrap (t.pc + 1) = t.pc + 1 := by rw [wrap_id] <;> omega
  unfold loGo
  unfold encThr thCells at *
  cases hm : loMay ⟨9, a, b, c⟩ with
  | false =>
    rw [hm] at h4
    refine jcalls Tryz.func182 rfl (by kernel_rfl) Tryz.ntmps182 rfl rfl (fun w0 β0 ext hβ => ?_)
    repeat (first | refine js rfl ?_ | (refine jdraw ?_ ?_; · kernel_rfl) | refine jbu rfl rfl rfl rfl ?_ | refine jv h1 rfl rfl rfl rfl rfl ?_)
    rw [h10]
    repeat (first | refine js rfl ?_ | (refine jdraw ?_ ?_; · kernel_rfl) | refine jbu rfl rfl rfl rfl ?_ | refine jv h3 rfl rfl rfl rfl rfl ?_ | refine jv h2 rfl rfl rfl rfl rfl ?_ | refine jo rfl rfl (index_arr rfl rfl rfl rfl rfl (by decide) (by decide)) rfl rfl ?_ | refine jv h4 rfl rfl rfl rfl rfl ?_)
    exact jr rfl rfl rfl rfl
  | true =>
    rw [hm] at h4
    have hm2 := (Bool.and_eq_true _ _ ▸ (show (([a, b, c].take 3).all (fun k => inn k 0 7) && _) = true from hm)).1
    obtain ⟨ra, rb, rc⟩ := all_take3 (p := fun k => inn k 0 7) hm2
    have ra := inn7 ra
    have rb := inn7 rb
    have rc := inn7 rc
    have h5 := lm_less { t with pc := t.pc + 1 } s ⟨9, a, b, c⟩ ra.1 ra.2 rb.1 rb.2 rc.1 rc.2
    unfold lwC at h5
    refine jcalls Tryz.func182 rfl (by kernel_rfl) Tryz.ntmps182 rfl rfl (fun w0 β0 ext hβ => ?_)
    repeat (first | refine js rfl ?_ | (refine jdraw ?_ ?_; · kernel_rfl) | refine jbu rfl rfl rfl rfl ?_ | refine jv h1 rfl rfl rfl rfl rfl ?_)
    rw [h10]
    repeat (first | refine js rfl ?_ | (refine jdraw ?_ ?_; · kernel_rfl) | refine jbu rfl rfl rfl rfl ?_ | refine jv h3 rfl rfl rfl rfl rfl ?_ | refine jv h2 rfl rfl rfl rfl rfl ?_ | refine jo rfl rfl (index_arr rfl rfl rfl rfl rfl (by decide) (by decide)) rfl rfl ?_ | refine jv h4 rfl rfl rfl rfl rfl ?_)
    rw [hw]
    repeat (first | refine js rfl ?_ | (refine jdraw ?_ ?_; · kernel_rfl) | refine jbu rfl rfl rfl rfl ?_ | refine jo rfl rfl (index_arr rfl rfl rfl rfl rfl (by decide) (by decide)) rfl rfl ?_)
    refine jb [4] h5 rfl rfl rfl ⟨rfl, rfl, rfl, rfl, rfl, rfl⟩ rfl rfl rfl rfl ?_
    repeat (first | refine js rfl ?_ | (refine jdraw ?_ ?_; · kernel_rfl) | refine jbu rfl rfl rfl rfl ?_)
    exact jr rfl rfl rfl rfl
theorem ap_10 (t : Thr) (s a b c : Int) (hf : t.frames.length ≤ 1000) (hl : t.left.length ≤ 1000000) (hr : loReady t s = 0) (hp : 0 ≤ t.pc ∧ t.pc ≤ 1000) (h10 : (t.pc == 1000) = false) :
    ACalls Tryz.prog 182 [encThr t, iv s, .agg [iv 10, iv a, iv b, iv c]] [] (one (.tup [resThr (loGo s ⟨10, a, b, c⟩ t), iv (loGo s ⟨10, a, b, c⟩ t).2]) []) := by
  have h1 := ready_ok t s (by omega) hl
  rw [hr] at h1
  have h2 := lin_ok 10 1 15
  have h3 := all_ok
  have h4 : ACalls Tryz.prog 217 [.agg [iv 0, iv 0, fnA 253], .agg [iv 10, iv a, iv b, iv c]] [] (one (bv (loMay ⟨10, a, b, c⟩)) []) := lmay_ok 0 0 (fnA 253) ⟨10, a, b, c⟩ (by decide) (by decide) (.inr ⟨_, rfl⟩)
  have hw : IntKind.i64.wrap (t.pc + 1) = t.pc + 1 := by rw [wrap_id] <;> omega
  unfold loGo
  unfold encThr thCells at *
  cases hm : loMay ⟨10, a, b, c⟩ with
  | false =>
    rw [hm] at h4
    refine jcalls Tryz.func182 rfl (by kernel_rfl) Tryz.ntmps182 rfl rfl (fun w0 β0 ext hβ => ?_)
    repeat (first | refine js rfl ?_ | (refine jdraw ?_ ?_; · kernel_rfl) | refine jbu rfl rfl rfl rfl ?_ | refine jv h1 rfl rfl rfl rfl rfl ?_)
    rw [h10]
    repeat (first | refine js rfl ?_ | (refine jdraw ?_ ?_; · kernel_rfl) | refine jbu rfl rfl rfl rfl ?_ | refine jv h3 rfl rfl rfl rfl rfl ?_ | refine jv h2 rfl rfl rfl rfl rfl ?_ | refine jo rfl rfl (index_arr rfl rfl rfl rfl rfl (by decide) (by decide)) rfl rfl ?_ | refine jv h4 rfl rfl rfl rfl rfl ?_)
    exact jr rfl rfl rfl rfl
  | true =>
    rw [hm] at h4
    have h5 := lm_jump { t with pc := t.pc + 1 } s ⟨10, a, b, c⟩
    unfold lwC at h5
    refine jcalls Tryz.func182 rfl (by kernel_rfl) Tryz.ntmps182 rfl rfl (fun w0 β0 ext hβ => ?_)
    repeat (first | refine js rfl ?_ | (refine jdraw ?_ ?_; · kernel_rfl) | refine jbu rfl rfl rfl rfl ?_ | refine jv h1 rfl rfl rfl rfl rfl ?_)
    rw [h10]
    repeat (first | refine js rfl ?_ | (refine jdraw ?_ ?_; · kernel_rfl) | refine jbu rfl rfl rfl rfl ?_ | refine jv h3 rfl rfl rfl rfl rfl ?_ | refine jv h2 rfl rfl rfl rfl rfl ?_ | refine jo rfl rfl (index_arr rfl rfl rfl rfl rfl (by decide) (by decide)) rfl rfl ?_ | refine jv h4 rfl rfl rfl rfl rfl ?_)
    rw [hw]
    repeat (first | refine js rfl ?_ | (refine jdraw ?_ ?_; · kernel_rfl) | refine jbu rfl rfl rfl rfl ?_ | refine jo rfl rfl (index_arr rfl rfl rfl rfl rfl (by decide) (by decide)) rfl rfl ?_)
    refine jb [4] h5 rfl rfl rfl ⟨rfl, rfl, rfl, rfl, rfl, rfl⟩ rfl rfl rfl rfl ?_
    repeat (first | refine js rfl ?_ | (refine jdraw ?_ ?_; · kernel_rfl) | refine jbu rfl rfl rfl rfl ?_)
    exact jr rfl rfl rfl rfl
theorem ap_11 (t : Thr) (s a b c : Int) (hf : t.frames.length ≤ 1000) (hl : t.left.length ≤ 1000000) (hr : loReady t s = 0) (hp : 0 ≤ t.pc ∧ t.pc ≤ 1000) (h10 : (t.pc == 1000) = false) :
    ACalls Tryz.prog 182 [encThr t, iv s, .agg [iv 11, iv a, iv b, iv c]] [] (one (.tup [resThr (loGo s ⟨11, a, b, c⟩ t), iv (loGo s ⟨11, a, b, c⟩ t).2]) []) := by
  have h1 := ready_ok t s (by omega) hl
  rw [hr] at h1
  have h2 := lin_ok 11 1 15
  have h3 := all_ok
  have h4 : ACalls Tryz.prog 217 [.agg [iv 1, iv 1, fnA 254], .agg [iv 11, iv a, iv b, iv c]] [] (one (bv (loMay ⟨11, a, b, c⟩)) []) := lmay_ok 1 1 (fnA 254) ⟨11, a, b, c⟩ (by decide) (by decide) (.inr ⟨_, rfl⟩)
  have hw : IntKind.i64.wrap (t.pc + 1) = t.pc + 1 := by rw [wrap_id] <;> omega
  unfold loGo
  unfold encThr thCells at *
  cases hm : loMay ⟨11, a, b, c⟩ with
  | false =>
    rw [hm] at h4
    refine jcalls Tryz.func182 rfl (by kernel_rfl) Tryz.ntmps182 rfl rfl (fun w0 β0 ext hβ => ?_)
    repeat (first | refine js rfl ?_ | (refine jdraw ?_ ?_; · kernel_rfl) | refine jbu rfl rfl rfl rfl ?_ | refine jv h1 rfl rfl rfl rfl rfl ?_)
    rw [h10]
    repeat (first | refine js rfl ?_ | (refine jdraw ?_ ?_; · kernel_rfl) | refine jbu rfl rfl rfl rfl ?_ | refine jv h3 rfl rfl rfl rfl rfl ?_ | refine jv h2 rfl rfl rfl rfl rfl ?_ | refine jo rfl rfl (index_arr rfl rfl rfl rfl rfl (by decide) (by decide)) rfl rfl ?_ | refine jv h4 rfl rfl rfl rfl rfl ?_)
    exact jr rfl rfl rfl rfl
  | true =>
    rw [hm] at h4
    have hm2 := (Bool.and_eq_true _ _ ▸ (show (([a, b, c].take 1).all (fun k => inn k 0 7) && _) = true from hm)).1
    have ra := inn7 (all_take1 (p := fun k => inn k 0 7) hm2)
    have h5 := lm_zero { t with pc := t.pc + 1 } s ⟨11, a, b, c⟩ ra.1 ra.2
    unfold lwC at h5
    refine jcalls Tryz.func182 rfl (by kernel_rfl) Tryz.ntmps182 rfl rfl (fun w0 β0 ext hβ => ?_)
    repeat (first | refine js rfl ?_ | (refine jdraw ?_ ?_; · kernel_rfl) | refine jbu rfl rfl rfl rfl ?_ | refine jv h1 rfl rfl rfl rfl rfl ?_)
    rw [h10]
    repeat (first | refine js rfl ?_ | (refine jdraw ?_ ?_; · kernel_rfl) | refine jbu rfl rfl rfl rfl ?_ | refine jv h3 rfl rfl rfl rfl rfl ?_ | refine jv h2 rfl rfl rfl rfl rfl ?_ | refine jo rfl rfl (index_arr rfl rfl rfl rfl rfl (by decide) (by decide)) rfl rfl ?_ | refine jv h4 rfl rfl rfl rfl rfl ?_)
    rw [hw]
    repeat (first | refine js rfl ?_ | (refine jdraw ?_ ?_; · kernel_rfl) | refine jbu rfl rfl rfl rfl ?_ | refine jo rfl rfl (index_arr rfl rfl rfl rfl rfl (by decide) (by decide)) rfl rfl ?_)
    refine jb [4] h5 rfl rfl rfl ⟨rfl, rfl, rfl, rfl, rfl, rfl⟩ rfl rfl rfl rfl ?_
    repeat (first | refine js rfl ?_ | (refine jdraw ?_ ?_; · kernel_rfl) | refine jbu rfl rfl rfl rfl ?_)
    exact jr rfl rfl rfl rfl
theorem ap_12 (t : Thr) (s a b c : Int) (hf : t.frames.length ≤ 1000) (hl : t.left.length ≤ 1000000) (hr : loReady t s = 0) (hp : 0 ≤ t.pc ∧ t.pc ≤ 1000) (h10 : (t.pc == 1000) = false) :
    ACalls Tryz.prog 182 [encThr t, iv s, .agg [iv 12, iv a, iv b, iv c]] [] (one (.tup [resThr (loGo s ⟨12, a, b, c⟩ t), iv (loGo s ⟨12, a, b, c⟩ t).2]) []) := by
  have h1 := ready_ok t s (by omega) hl
  rw [hr] at h1
  have h2 := lin_ok 12 1 15
  have h3 := all_ok
  have h4 : ACalls Tryz.prog 217 [.agg [iv 1, iv 1, fnA 255], .agg [iv 12, iv a, iv b, iv c]] [] (one (bv (loMay ⟨12, a, b, c⟩)) []) := lmay_ok 1 1 (fnA 255) ⟨12, a, b, c⟩ (by decide) (by decide) (.inr ⟨_, rfl⟩)
  have hw : IntKind.i64.wrap (t.pc + 1) = t.pc + 1 := by rw [wrap_id] <;> omega
  unfold loGo
  unfold encThr thCells at *
  cases hm : loMay ⟨12, a, b, c⟩ with
  | false =>
    rw [hm] at h4
    refine jcalls Tryz.func182 rfl (by kernel_rfl) Tryz.ntmps182 rfl rfl (fun w0 β0 ext hβ => ?_)
    repeat (first | refine js rfl ?_ | (refine jdraw ?_ ?_; · kernel_rfl) | refine jbu rfl rfl rfl rfl ?_ | refine jv h1 rfl rfl rfl rfl rfl ?_)
    rw [h10]
    repeat (first | refine js rfl ?_ | (refine jdraw ?_ ?_; · kernel_rfl) | refine jbu rfl rfl rfl rfl ?_ | refine jv h3 rfl rfl rfl rfl rfl ?_ | refine jv h2 rfl rfl rfl rfl rfl ?_ | refine jo rfl rfl (index_arr rfl rfl rfl rfl rfl (by decide) (by decide)) rfl rfl ?_ | refine jv h4 rfl rfl rfl rfl rfl ?_)
    exact jr rfl rfl rfl rfl
  | true =>
    rw [hm] at h4
    have hm2 := (Bool.and_eq_true _ _ ▸ (show (([a, b, c].take 1).all (fun k => inn k 0 7) && _) = true from hm)).1
    have ra := inn7 (all_take1 (p := fun k => inn k 0 7) hm2)
    have h5 := lm_some { t with pc := t.pc + 1 } s ⟨12, a, b, c⟩ ra.1 ra.2
    unfold lwC at h5
    refine jcalls Tryz.func182 rfl (by kernel_rfl) Tryz.ntmps182 rfl rfl (fun w0 β0 ext hβ => ?_)
    repeat (first | refine js rfl ?_ | (refine jdraw ?_ ?_; · kernel_rfl) | refine jbu rfl rfl rfl rfl ?_ | refine jv h1 rfl rfl rfl rfl rfl ?_)
    rw [h10]
    repeat (first | refine js rfl ?_ | (refine jdraw ?_ ?_; · kernel_rfl) | refine jbu rfl rfl rfl rfl ?_ | refine jv h3 rfl rfl rfl rfl rfl ?_ | refine jv h2 rfl rfl rfl rfl rfl ?_ | refine jo rfl rfl (index_arr rfl rfl rfl rfl rfl (by decide) (by decide)) rfl rfl ?_ | refine jv h4 rfl rfl rfl rfl rfl ?_)
    rw [hw]
    repeat (first | refine js rfl ?_ | (refine jdraw ?_ ?_; · kernel_rfl) | refine jbu rfl rfl rfl rfl ?_ | refine jo rfl rfl (index_arr rfl rfl rfl rfl rfl (by decide) (by decide)) rfl rfl ?_)
    refine jb [4] h5 rfl rfl rfl ⟨rfl, rfl, rfl, rfl, rfl, rfl⟩ rfl rfl rfl rfl ?_
    repeat (first | refine js rfl ?_ | (refine jdraw ?_ ?_; · kernel_rfl) | refine jbu rfl rfl rfl rfl ?_)
    exact jr rfl rfl rfl rfl
theorem ap_13 (t : Thr) (s a b c : Int) (hf : t.frames.length ≤ 1000) (hl : t.left.length ≤ 1000000) (hr : loReady t s = 0) (hp : 0 ≤ t.pc ∧ t.pc ≤ 1000) (h10 : (t.pc == 1000) = false) :
    ACalls Tryz.prog 182 [encThr t, iv s, .agg [iv 13, iv a, iv b, iv c]] [] (one (.tup [resThr (loGo s ⟨13, a, b, c⟩ t), iv (loGo s ⟨13, a, b, c⟩ t).2]) []) := by
  have h1 := ready_ok t s (by omega) hl
  rw [hr] at h1
  have h2 := lin_ok 13 1 15
  have h3 := all_ok
  have h4 : ACalls Tryz.prog 217 [.agg [iv 0, iv 0, .v .nilFunc], .agg [iv 13, iv a, iv b, iv c]] [] (one (bv (loMay ⟨13, a, b, c⟩)) []) := lmay_ok 0 0 (.v .nilFunc) ⟨13, a, b, c⟩ (by decide) (by decide) (.inl rfl)
  have hw : IntKind.i64.wrap (t.pc + 1) = t.pc + 1 := by rw [wrap_id] <;> omega
  unfold loGo
  have h5 := call_ok t a hf hl
  unfold encThr thCells at *
  cases hm : loMay ⟨13, a, b, c⟩ with
  | false =>
    rw [hm] at h4
    refine jcalls Tryz.func182 rfl (by kernel_rfl) Tryz.ntmps182 rfl rfl (fun w0 β0 ext hβ => ?_)
    repeat (first | refine js rfl ?_ | (refine jdraw ?_ ?_; · kernel_rfl) | refine jbu rfl rfl rfl rfl ?_ | refine jv h1 rfl rfl rfl rfl rfl ?_)
    rw [h10]
    repeat (first | refine js rfl ?_ | (refine jdraw ?_ ?_; · kernel_rfl) | refine jbu rfl rfl rfl rfl ?_ | refine jv h3 rfl rfl rfl rfl rfl ?_ | refine jv h2 rfl rfl rfl rfl rfl ?_ | refine jo rfl rfl (index_arr rfl rfl rfl rfl rfl (by decide) (by decide)) rfl rfl ?_ | refine jv h4 rfl rfl rfl rfl rfl ?_)
    exact jr rfl rfl rfl rfl
  | true =>
    rw [hm] at h4
    have hp2 : ∀ p : Thr × Int, p = frCall t a → ACalls Tryz.prog 182 [.agg (thCells t), iv s, .agg [iv 13, iv a, iv b, iv c]] [] (one (.tup [resThr p, iv p.2]) []) := fun p hp => by
      rw [← hp] at h5
      obtain ⟨p1, e⟩ := p
      unfold thCells at *
      cases he : decide (e = 0) with
      | true =>
        have hres : resThr (p1, e) = encThr p1 := by unfold resThr; rw [he]; rfl
        rw [hres] at h5 ⊢
        unfold encThr thCells at *
        refine jcalls Tryz.func182 rfl (by kernel_rfl) Tryz.ntmps182 rfl rfl (fun w0 β0 ext hβ => ?_)
        repeat (first | refine js rfl ?_ | (refine jdraw ?_ ?_; · kernel_rfl) | refine jbu rfl rfl rfl rfl ?_ | refine jv h1 rfl rfl rfl rfl rfl ?_)
        rw [h10]
        repeat (first | refine js rfl ?_ | (refine jdraw ?_ ?_; · kernel_rfl) | refine jbu rfl rfl rfl rfl ?_ | refine jv h3 rfl rfl rfl rfl rfl ?_ | refine jv h2 rfl rfl rfl rfl rfl ?_ | refine jo rfl rfl (index_arr rfl rfl rfl rfl rfl (by decide) (by decide)) rfl rfl ?_ | refine jv h4 rfl rfl rfl rfl rfl ?_ | refine jv h5 rfl rfl rfl rfl rfl ?_)
        exact jr rfl rfl rfl rfl
      | false =>
        have hres : resThr (p1, e) = thrE0 := by unfold resThr; rw [he]; rfl
        rw [hres] at h5 ⊢
        unfold thrE0 at *
        refine jcalls Tryz.func182 rfl (by kernel_rfl) Tryz.ntmps182 rfl rfl (fun w0 β0 ext hβ => ?_)
        repeat (first | refine js rfl ?_ | (refine jdraw ?_ ?_; · kernel_rfl) | refine jbu rfl rfl rfl rfl ?_ | refine jv h1 rfl rfl rfl rfl rfl ?_)
        rw [h10]
        repeat (first | refine js rfl ?_ | (refine jdraw ?_ ?_; · kernel_rfl) | refine jbu rfl rfl rfl rfl ?_ | refine jv h3 rfl rfl rfl rfl rfl ?_ | refine jv h2 rfl rfl rfl rfl rfl ?_ | refine jo rfl rfl (index_arr rfl rfl rfl rfl rfl (by decide) (by decide)) rfl rfl ?_ | refine jv h4 rfl rfl rfl rfl rfl ?_ | refine jv h5 rfl rfl rfl rfl rfl ?_)
        exact jr rfl rfl rfl rfl
    exact hp2 _ rfl
theorem ap_14 (t : Thr) (s a b c : Int) (hf : t.frames.length ≤ 1000) (hl : t.left.length ≤ 1000000) (hr : loReady t s = 0) (hp : 0 ≤ t.pc ∧ t.pc ≤ 1000) (h10 : (t.pc == 1000) = false) :
    ACalls Tryz.prog 182 [encThr t, iv s, .agg [iv 14, iv a, iv b, iv c]] [] (one (.tup [resThr (loGo s ⟨14, a, b, c⟩ t), iv (loGo s ⟨14, a, b, c⟩ t).2]) []) := by
  have h1 := ready_ok t s (by omega) hl
  rw [hr] at h1
  have h2 := lin_ok 14 1 15
  have h3 := all_ok
  have h4 : ACalls Tryz.prog 217 [.agg [iv 0, iv (-1), .v .nilFunc], .agg [iv 14, iv a, iv b, iv c]] [] (one (bv (loMay ⟨14, a, b, c⟩)) []) := lmay_ok 0 (-1) (.v .nilFunc) ⟨14, a, b, c⟩ (by decide) (by decide) (.inl rfl)
  have hw : IntKind.i64.wrap (t.pc + 1) = t.pc + 1 := by rw [wrap_id] <;> omega
  unfold loGo
  have h5 := back_ok t hf hl
  unfold encThr thCells at *
  cases hm : loMay ⟨14, a, b, c⟩ with
  | false =>
    rw [hm] at h4
    refine jcalls Tryz.func182 rfl (by kernel_rfl) Tryz.ntmps182 rfl rfl (fun w0 β0 ext hβ => ?_)
    repeat (first | refine js rfl ?_ | (refine jdraw ?_ ?_; · kernel_rfl) | refine jbu rfl rfl rfl rfl ?_ | refine jv h1 rfl rfl rfl rfl rfl ?_)
    rw [h10]
    repeat (first | refine js rfl ?_ | (refine jdraw ?_ ?_; · kernel_rfl) | refine jbu rfl rfl rfl rfl ?_ | refine jv h3 rfl rfl rfl rfl rfl ?_ | refine jv h2 rfl rfl rfl rfl rfl ?_ | refine jo rfl rfl (index_arr rfl rfl rfl rfl rfl (by decide) (by decide)) rfl rfl ?_ | refine jv h4 rfl rfl rfl rfl rfl ?_)
    exact jr rfl rfl rfl rfl
  | true =>
    rw [hm] at h4
    have hp2 : ∀ p : Thr × Int, p = frBack t → ACalls Tryz.prog 182 [.agg (thCells t), iv s, .agg [iv 14, iv a, iv b, iv c]] [] (one (.tup [resThr p, iv p.2]) []) := fun p hp => by
      rw [← hp] at h5
      obtain ⟨p1, e⟩ := p
      unfold thCells at *
      cases he : decide (e = 0) with
      | true =>
        have hres : resThr (p1, e) = encThr p1 := by unfold resThr; rw [he]; rfl
        rw [hres] at h5 ⊢
        unfold encThr thCells at *
        refine jcalls Tryz.func182 rfl (by kernel_rfl) Tryz.ntmps182 rfl rfl (fun w0 β0 ext hβ => ?_)
        repeat (first | refine js rfl ?_ | (refine jdraw ?_ ?_; · kernel_rfl) | refine jbu rfl rfl rfl rfl ?_ | refine jv h1 rfl rfl rfl rfl rfl ?_)
        rw [h10]
        repeat (first | refine js rfl ?_ | (refine jdraw ?_ ?_; · kernel_rfl) | refine jbu rfl rfl rfl rfl ?_ | refine jv h3 rfl rfl rfl rfl rfl ?_ | refine jv h2 rfl rfl rfl rfl rfl ?_ | refine jo rfl rfl (index_arr rfl rfl rfl rfl rfl (by decide) (by decide)) rfl rfl ?_ | refine jv h4 rfl rfl rfl rfl rfl ?_ | refine jv h5 rfl rfl rfl rfl rfl ?_)
        exact jr rfl rfl rfl rfl
      | false =>
        have hres : resThr (p1, e) = thrE0 := by unfold resThr; rw [he]; rfl
        rw [hres] at h5 ⊢
        unfold thrE0 at *
        refine jcalls Tryz.func182 rfl (by kernel_rfl) Tryz.ntmps182 rfl rfl (fun w0 β0 ext hβ => ?_)
        repeat (first | refine js rfl ?_ | (refine jdraw ?_ ?_; · kernel_rfl) | refine jbu rfl rfl rfl rfl ?_ | refine jv h1 rfl rfl rfl rfl rfl ?_)
        rw [h10]
        repeat (first | refine js rfl ?_ | (refine jdraw ?_ ?_; · kernel_rfl) | refine jbu rfl rfl rfl rfl ?_ | refine jv h3 rfl rfl rfl rfl rfl ?_ | refine jv h2 rfl rfl rfl rfl rfl ?_ | refine jo rfl rfl (index_arr rfl rfl rfl rfl rfl (by decide) (by decide)) rfl rfl ?_ | refine jv h4 rfl rfl rfl rfl rfl ?_ | refine jv h5 rfl rfl rfl rfl rfl ?_)
        exact jr rfl rfl rfl rfl
    exact hp2 _ rfl
theorem ap_15 (t : Thr) (s a b c : Int) (hf : t.frames.length ≤ 1000) (hl : t.left.length ≤ 1000000) (hr : loReady t s = 0) (hp : 0 ≤ t.pc ∧ t.pc ≤ 1000) (h10 : (t.pc == 1000) = false) :
    ACalls Tryz.prog 182 [encThr t, iv s, .agg [iv 15, iv a, iv b, iv c]] [] (one (.tup [resThr (loGo s ⟨15, a, b, c⟩ t), iv (loGo s ⟨15, a, b, c⟩ t).2]) []) := by
  have h1 := ready_ok t s (by omega) hl
  rw [hr] at h1
  have h2 := lin_ok 15 1 15
  have h3 := all_ok
  have h4 : ACalls Tryz.prog 217 [.agg [iv 1, iv (-1), fnA 256], .agg [iv 15, iv a, iv b, iv c]] [] (one (bv (loMay ⟨15, a, b, c⟩)) []) := lmay_ok 1 (-1) (fnA 256) ⟨15, a, b, c⟩ (by decide) (by decide) (.inr ⟨_, rfl⟩)
  have hw : IntKind.i64.wrap (t.pc + 1) = t.pc + 1 := by rw [wrap_id] <;> omega
  unfold loGo
  unfold encThr thCells at *
  cases hm : loMay ⟨15, a, b, c⟩ with
  | false =>
    rw [hm] at h4
    refine jcalls Tryz.func182 rfl (by kernel_rfl) Tryz.ntmps182 rfl rfl (fun w0 β0 ext hβ => ?_)
    repeat (first | refine js rfl ?_ | (refine jdraw ?_ ?_; · kernel_rfl) | refine jbu rfl rfl rfl rfl ?_ | refine jv h1 rfl rfl rfl rfl rfl ?_)
    rw [h10]
    repeat (first | refine js rfl ?_ | (refine jdraw ?_ ?_; · kernel_rfl) | refine jbu rfl rfl rfl rfl ?_ | refine jv h3 rfl rfl rfl rfl rfl ?_ | refine jv h2 rfl rfl rfl rfl rfl ?_ | refine jo rfl rfl (index_arr rfl rfl rfl rfl rfl (by decide) (by decide)) rfl rfl ?_ | refine jv h4 rfl rfl rfl rfl rfl ?_)
    exact jr rfl rfl rfl rfl
  | true =>
    rw [hm] at h4
    have hm2 := (Bool.and_eq_true _ _ ▸ (show (([a, b, c].take 1).all (fun k => inn k 0 7) && _) = true from hm)).1
    have ra := inn7 (all_take1 (p := fun k => inn k 0 7) hm2)
    have h5 := lm_who { t with pc := t.pc + 1 } s ⟨15, a, b, c⟩ ra.1 ra.2
    unfold lwC at h5
    refine jcalls Tryz.func182 rfl (by kernel_rfl) Tryz.ntmps182 rfl rfl (fun w0 β0 ext hβ => ?_)
    repeat (first | refine js rfl ?_ | (refine jdraw ?_ ?_; · kernel_rfl) | refine jbu rfl rfl rfl rfl ?_ | refine jv h1 rfl rfl rfl rfl rfl ?_)
    rw [h10]
    repeat (first | refine js rfl ?_ | (refine jdraw ?_ ?_; · kernel_rfl) | refine jbu rfl rfl rfl rfl ?_ | refine jv h3 rfl rfl rfl rfl rfl ?_ | refine jv h2 rfl rfl rfl rfl rfl ?_ | refine jo rfl rfl (index_arr rfl rfl rfl rfl rfl (by decide) (by decide)) rfl rfl ?_ | refine jv h4 rfl rfl rfl rfl rfl ?_)
    rw [hw]
    repeat (first | refine js rfl ?_ | (refine jdraw ?_ ?_; · kernel_rfl) | refine jbu rfl rfl rfl rfl ?_ | refine jo rfl rfl (index_arr rfl rfl rfl rfl rfl (by decide) (by decide)) rfl rfl ?_)
    refine jb [4] h5 rfl rfl rfl ⟨rfl, rfl, rfl, rfl, rfl, rfl⟩ rfl rfl rfl rfl ?_
    repeat (first | refine js rfl ?_ | (refine jdraw ?_ ?_; · kernel_rfl) | refine jbu rfl rfl rfl rfl ?_)
    exact jr rfl rfl rfl rfl
theorem apply_ok (t : Thr) (s : Int) (i : Ins) (hf : t.frames.length ≤ 1000) (hl : t.left.length ≤ 1000000) : ACalls Tryz.prog 182 [encThr t, iv s, encIns i] [] (one (.tup [resThr (loApply s i t), iv (loApply s i t).2]) []) := by
  have h1 := ready_ok t s (by omega) hl
  have h2 := lin_ok i.op 1 15
  have h3 := all_ok
  have e1 : (t.pc == 1000) = decide (t.pc = 1000) := rfl
  unfold loApply
  rcases loReady_of t s with hr | hr | ⟨hr, hth⟩
  · rw [hr] at h1 ⊢
    unfold encIns at *
    unfold encThr thCells at *
    refine jcalls Tryz.func182 rfl (by kernel_rfl) Tryz.ntmps182 rfl rfl (fun w0 β0 ext hβ => ?_)
    repeat (first | refine js rfl ?_ | (refine jdraw ?_ ?_; · kernel_rfl) | refine jbu rfl rfl rfl rfl ?_ | refine jv h1 rfl rfl rfl rfl rfl ?_)
    exact jr rfl rfl rfl rfl
  · rw [hr] at h1 ⊢
    unfold encIns at *
    unfold encThr thCells at *
    cases he : decide (t.pc = 1000)
    all_goals (
      rw [he] at e1
      refine jcalls Tryz.func182 rfl (by kernel_rfl) Tryz.ntmps182 rfl rfl (fun w0 β0 ext hβ => ?_)
      repeat (first | refine js rfl ?_ | (refine jdraw ?_ ?_; · kernel_rfl) | refine jbu rfl rfl rfl rfl ?_ | refine jv h1 rfl rfl rfl rfl rfl ?_)
      rw [e1]
      repeat (first | refine js rfl ?_ | (refine jdraw ?_ ?_; · kernel_rfl) | refine jbu rfl rfl rfl rfl ?_ | refine jv h3 rfl rfl rfl rfl rfl ?_)
    )
    all_goals exact jr rfl rfl rfl rfl
  · have hp := thRight_pc hth
    cases he : decide (t.pc = 1000) with
    | true =>
      rw [hr] at h1 ⊢
      rw [he] at e1
      unfold encIns at *
      unfold encThr thCells at *
      refine jcalls Tryz.func182 rfl (by kernel_rfl) Tryz.ntmps182 rfl rfl (fun w0 β0 ext hβ => ?_)
      repeat (first | refine js rfl ?_ | (refine jdraw ?_ ?_; · kernel_rfl) | refine jbu rfl rfl rfl rfl ?_ | refine jv h1 rfl rfl rfl rfl rfl ?_)
      rw [e1]
      repeat (first | refine js rfl ?_ | (refine jdraw ?_ ?_; · kernel_rfl) | refine jbu rfl rfl rfl rfl ?_)
      exact jr rfl rfl rfl rfl
    | false =>
      rw [he] at e1
      cases hi : inn i.op 1 15 with
      | false =>
        rw [hr] at h1 ⊢
        rw [hi] at h2
        unfold encIns at *
        unfold encThr thCells at *
        refine jcalls Tryz.func182 rfl (by kernel_rfl) Tryz.ntmps182 rfl rfl (fun w0 β0 ext hβ => ?_)
        repeat (first | refine js rfl ?_ | (refine jdraw ?_ ?_; · kernel_rfl) | refine jbu rfl rfl rfl rfl ?_ | refine jv h1 rfl rfl rfl rfl rfl ?_)
        rw [e1]
        repeat (first | refine js rfl ?_ | (refine jdraw ?_ ?_; · kernel_rfl) | refine jbu rfl rfl rfl rfl ?_ | refine jv h3 rfl rfl rfl rfl rfl ?_ | refine jv h2 rfl rfl rfl rfl rfl ?_)
        exact jr rfl rfl rfl rfl
      | true =>
        rw [hr]
        obtain ⟨op, a, b, c⟩ := i
        simp only at hi
        rcases inn15 hi with rfl | rfl | rfl | rfl | rfl | rfl | rfl | rfl | rfl | rfl | rfl | rfl | rfl | rfl | rfl
        · exact ap_1 t s a b c hf hl hr hp e1
        · exact ap_2 t s a b c hf hl hr hp e1
        · exact ap_3 t s a b c hf hl hr hp e1
        · exact ap_4 t s a b c hf hl hr hp e1
        · exact ap_5 t s a b c hf hl hr hp e1
        · exact ap_6 t s a b c hf hl hr hp e1
        · exact ap_7 t s a b c hf hl hr hp e1
        · exact ap_8 t s a b c hf hl hr hp e1
        · exact ap_9 t s a b c hf hl hr hp e1
        · exact ap_10 t s a b c hf hl hr hp e1
        · exact ap_11 t s a b c hf hl hr hp e1
        · exact ap_12 t s a b c hf hl hr hp e1
        · exact ap_13 t s a b c hf hl hr hp e1
        · exact ap_14 t s a b c hf hl hr hp e1
        · exact ap_15 t s a b c hf hl hr hp e1
end Go.AL
end
section
set_option maxRecDepth 100000
namespace Go.AL
open Go Go.Proofs
attribute [local irreducible] J
def fltA (e : Int) : AVal := .ifc 261 (.agg [iv e])
theorem must_ok : ACalls Tryz.prog 158 [iv 0] [] (one (.tup []) []) := by
  refine jcalls Tryz.func158 rfl (by kernel_rfl) Tryz.ntmps158 rfl rfl (fun w0 β0 ext hβ => ?_)
  repeat (first | refine js rfl ?_ | (refine jdraw ?_ ?_; · kernel_rfl) | refine jbu rfl rfl rfl rfl ?_)
  exact jend [] true rfl rfl rfl ⟨rfl, rfl⟩
theorem must_pan (e : Int) (he : e ≠ 0) : ACalls Tryz.prog 158 [iv e] [] (onep (fltA e) []) := by
  have h : (e != 0) = true := by rw [bne_iff_ne]; exact he
  refine jcalls Tryz.func158 rfl (by kernel_rfl) Tryz.ntmps158 rfl rfl (fun w0 β0 ext hβ => ?_)
  repeat (first | refine js rfl ?_ | (refine jdraw ?_ ?_; · kernel_rfl) | refine jbu rfl rfl rfl rfl ?_)
  rw [h]
  repeat (first | refine js rfl ?_ | (refine jdraw ?_ ?_; · kernel_rfl) | refine jbu rfl rfl rfl rfl ?_)
  refine jpan rfl rfl rfl rfl ?_
  exact qpan [] true rfl rfl rfl rfl
def swC (w : Wd) (k : Int) (t : Thr) (i : Ins) : List AVal :=
  [.sl (w.code.map encIns), .sl (w.tso.mem.words.map iv), .sl (w.tso.mem.tags.map iv), iv w.tso.depth, .sl (w.tso.bufs.map encBuf), .sl (w.thr.map encThr), .sl (w.evs.map encEvt), iv k,
   iv t.pc, iv (g0 t.regs 0), iv (g0 t.regs 1), iv (g0 t.regs 2), iv (g0 t.regs 3), iv (g0 t.regs 4), iv (g0 t.regs 5), iv (g0 t.regs 6), iv (g0 t.regs 7), .sl (t.frames.map encFrm), iv t.state, iv t.fault, .slz (t.left.map iv), iv i.op, iv i.a, iv i.b, iv i.c]
def swH (w : Wd) (k : Int) (t : Thr) (i : Ins) : List AObj := [.box 238 (swC w k t i)]
theorem sw_get (w : Wd) (k : Int) (t : Thr) (i : Ins) {q : Int} (h0 : 0 ≤ q) (h8 : q < 8) : takeA ty3 (swC w k t i) (8 + 1 + q.toNat * ty3.size) = some (iv (rg t q)) := by
  rcases eight h0 h8 with rfl | rfl | rfl | rfl | rfl | rfl | rfl | rfl <;> rfl
theorem sw_set (w : Wd) (k : Int) (t : Thr) (i : Ins) (v : Int) {q : Int} (h0 : 0 ≤ q) (h8 : q < 8) : spliceA (swC w k t i) (8 + 1 + q.toNat * ty3.size) [iv v] = swC w k (setR t q v) i := by
  rcases eight h0 h8 with rfl | rfl | rfl | rfl | rfl | rfl | rfl | rfl <;> rfl
theorem put_ok (w : Wd) (k : Nat) (t : Thr) (i : Ins) (hk : k < w.thr.length) (hl : w.thr.length ≤ 8) :
    ACalls Tryz.prog 181 [.ptr 0 0] (swH w k t i) (one (.tup []) (swH (setT w k t) k t i)) := by
  have hc := clone_thr w.thr (by intro e; rw [e] at hk; simp at hk) (by omega)
  unfold swH swC setT
  simp only
  refine jcalls Tryz.func181 rfl (by kernel_rfl) Tryz.ntmps181 rfl rfl (fun w0 β0 ext hβ => ?_)
  repeat (first | refine js rfl ?_ | (refine jdraw ?_ ?_; · kernel_rfl) | refine jbu rfl rfl rfl rfl ?_)
  refine jb [] hc rfl rfl rfl ⟨rfl, rfl, rfl, rfl, rfl, rfl⟩ rfl rfl rfl rfl ?_
  repeat (first | refine js rfl ?_ | refine jbu rfl rfl rfl rfl ?_)
  refine jdrawPT [(0, .p), (1, .p), (2, .p), (3, .p), (4, .r), (5, .p), (6, .p), (7, .p), (8, .r), (9, .p), (10, .p), (11, .p), (12, .r), (13, .s), (14, .m)] rfl (by kernel_rfl) ?_
  repeat (first | refine js rfl ?_ | (refine jdraw ?_ ?_; · kernel_rfl) | refine jbu rfl rfl rfl rfl ?_)
  refine jo rfl rfl (index_own (xs := w.thr.map encThr) (n := (k : Int)) rfl rfl rfl rfl rfl rfl (by omega) (by simp; omega)) rfl rfl ?_
  refine jo rfl rfl (store_enc (enc := encThr) (l := w.thr) (l' := w.thr.set k t) rfl rfl rfl (map_at (by omega)) rfl rfl rfl rfl rfl (Nat.le_of_ble_eq_true rfl) (.inl ⟨_, rfl⟩) (put_at (enc := encThr) rfl) rfl) rfl rfl ?_
  repeat (first | refine js rfl ?_ | (refine jdraw ?_ ?_; · kernel_rfl) | refine jbu rfl rfl rfl rfl ?_)
  exact jend [] true rfl rfl rfl ⟨rfl, rfl⟩
theorem sload_ok (w : Wd) (k : Nat) (t : Thr) (i : Ins) (h : TsR w.tso) (hk : k < w.tso.bufs.length) (a0 : 0 ≤ i.a) (a8 : i.a < 8) (b0 : 0 ≤ i.b) (b8 : i.b < 8)
    (he : (tsLoad w.tso k (IntKind.i64.wrap (rg t i.b + i.c))).2 = 0) :
    ACalls Tryz.prog 183 [.ptr 0 0] (swH w k t i) (one (.tup []) (swH w k (setR t i.a (tsLoad w.tso k (IntKind.i64.wrap (rg t i.b + i.c))).1) i)) := by
  have h1 := tload_ok w.tso k (IntKind.i64.wrap (rg t i.b + i.c)) h hk
  have h2 := must_ok
  rw [he] at h1
  generalize (tsLoad w.tso k (IntKind.i64.wrap (rg t i.b + i.c))).1 = v at *
  have hg := sw_get w k t i b0 b8
  have hs := sw_set w k t i v a0 a8
  have hle : 8 + 1 + i.a.toNat * ty3.size + 1 ≤ 25 := by show 8 + 1 + i.a.toNat * 1 + 1 ≤ 25; omega
  unfold encTso tCells ivs at h1
  unfold swH
  unfold swC at *
  refine jcalls Tryz.func183 rfl (by kernel_rfl) Tryz.ntmps183 rfl rfl (fun w0 β0 ext hβ => ?_)
  repeat (first | refine js rfl ?_ | (refine jdraw ?_ ?_; · kernel_rfl) | refine jbu rfl rfl rfl rfl ?_ | refine jo rfl rfl (index_arr rfl rfl rfl rfl rfl b0 b8) rfl rfl ?_ | refine jo rfl rfl (load_dsem (r := ty3) rfl rfl rfl hg) rfl rfl ?_ | refine jv h1 rfl rfl rfl rfl rfl ?_ | refine jv h2 rfl rfl rfl rfl rfl ?_ | refine jo rfl rfl (index_arr rfl rfl rfl rfl rfl a0 a8) rfl rfl ?_ | refine jo rfl rfl (store_box (r' := ty3) (v := iv v) rfl rfl rfl rfl rfl rfl hle hs) rfl rfl ?_)
  exact jend [] true rfl rfl rfl ⟨rfl, rfl⟩
theorem sload_pan (w : Wd) (k : Nat) (t : Thr) (i : Ins) (h : TsR w.tso) (hk : k < w.tso.bufs.length) (a0 : 0 ≤ i.a) (a8 : i.a < 8) (b0 : 0 ≤ i.b) (b8 : i.b < 8)
    (he : (tsLoad w.tso k (IntKind.i64.wrap (rg t i.b + i.c))).2 ≠ 0) :
    ACalls Tryz.prog 183 [.ptr 0 0] (swH w k t i) (onep (fltA (tsLoad w.tso k (IntKind.i64.wrap (rg t i.b + i.c))).2) (swH w k t i)) := by
  have h1 := tload_ok w.tso k (IntKind.i64.wrap (rg t i.b + i.c)) h hk
  have h2 := must_pan _ he
  generalize tsLoad w.tso k (IntKind.i64.wrap (rg t i.b + i.c)) = v at *
  obtain ⟨v, e⟩ := v
  simp only at *
  have hg := sw_get w k t i b0 b8
  unfold encTso tCells ivs at h1
  unfold swH
  unfold swC at *
  refine jcalls Tryz.func183 rfl (by kernel_rfl) Tryz.ntmps183 rfl rfl (fun w0 β0 ext hβ => ?_)
  repeat (first | refine js rfl ?_ | (refine jdraw ?_ ?_; · kernel_rfl) | refine jbu rfl rfl rfl rfl ?_ | refine jo rfl rfl (index_arr rfl rfl rfl rfl rfl b0 b8) rfl rfl ?_ | refine jo rfl rfl (load_dsem (r := ty3) rfl rfl rfl hg) rfl rfl ?_ | refine jv h1 rfl rfl rfl rfl rfl ?_)
  refine jbp [] h2 rfl rfl rfl ⟨rfl, rfl, rfl, rfl, rfl, rfl⟩ rfl rfl rfl ?_
  exact qpan [] true rfl rfl rfl rfl
theorem sstore_ok (w : Wd) (k : Nat) (t : Thr) (i : Ins) (h : TsR w.tso) (hk : k < w.tso.bufs.length) (a0 : 0 ≤ i.a) (a8 : i.a < 8) (b0 : 0 ≤ i.b) (b8 : i.b < 8)
    (he : (tsStore w.tso k (IntKind.i64.wrap (rg t i.b + i.c)) (rg t i.a)).2 = 0) :
    ACalls Tryz.prog 184 [.ptr 0 0] (swH w k t i) (one (.tup []) (swH { w with tso := (tsStore w.tso k (IntKind.i64.wrap (rg t i.b + i.c)) (rg t i.a)).1 } k t i)) := by
  have h1 := tstore_ok w.tso k (IntKind.i64.wrap (rg t i.b + i.c)) (rg t i.a) h hk
  have h2 := must_ok
  rw [he] at h1
  generalize (tsStore w.tso k (IntKind.i64.wrap (rg t i.b + i.c)) (rg t i.a)).1 = v at *
  have hg := sw_get w k t i b0 b8
  have hg2 := sw_get w k t i a0 a8
  unfold encTso tCells ivs at h1
  unfold swH
  unfold swC at *
  refine jcalls Tryz.func184 rfl (by kernel_rfl) Tryz.ntmps184 rfl rfl (fun w0 β0 ext hβ => ?_)
  repeat (first | refine js rfl ?_ | (refine jdraw ?_ ?_; · kernel_rfl) | refine jbu rfl rfl rfl rfl ?_ | refine jo rfl rfl (index_arr rfl rfl rfl rfl rfl b0 b8) rfl rfl ?_ | refine jo rfl rfl (load_dsem (r := ty3) rfl rfl rfl hg) rfl rfl ?_ | refine jo rfl rfl (index_arr rfl rfl rfl rfl rfl a0 a8) rfl rfl ?_ | refine jo rfl rfl (load_dsem (r := ty3) rfl rfl rfl hg2) rfl rfl ?_ | refine jv h1 rfl rfl rfl rfl rfl ?_ | refine jv h2 rfl rfl rfl rfl rfl ?_)
  exact jend [] true rfl rfl rfl ⟨rfl, rfl⟩
theorem sstore_pan (w : Wd) (k : Nat) (t : Thr) (i : Ins) (h : TsR w.tso) (hk : k < w.tso.bufs.length) (a0 : 0 ≤ i.a) (a8 : i.a < 8) (b0 : 0 ≤ i.b) (b8 : i.b < 8)
    (he : (tsStore w.tso k (IntKind.i64.wrap (rg t i.b + i.c)) (rg t i.a)).2 ≠ 0) :
    ACalls Tryz.prog 184 [.ptr 0 0] (swH w k t i) (onep (fltA (tsStore w.tso k (IntKind.i64.wrap (rg t i.b + i.c)) (rg t i.a)).2) (swH w k t i)) := by
  have h1 := tstore_ok w.tso k (IntKind.i64.wrap (rg t i.b + i.c)) (rg t i.a) h hk
  have h2 := must_pan _ he
  generalize tsStore w.tso k (IntKind.i64.wrap (rg t i.b + i.c)) (rg t i.a) = v at *
  obtain ⟨v, e⟩ := v
  simp only at *
  have hg := sw_get w k t i b0 b8
  have hg2 := sw_get w k t i a0 a8
  unfold encTso tCells ivs at h1
  unfold swH
  unfold swC at *
  refine jcalls Tryz.func184 rfl (by kernel_rfl) Tryz.ntmps184 rfl rfl (fun w0 β0 ext hβ => ?_)
  repeat (first | refine js rfl ?_ | (refine jdraw ?_ ?_; · kernel_rfl) | refine jbu rfl rfl rfl rfl ?_ | refine jo rfl rfl (index_arr rfl rfl rfl rfl rfl b0 b8) rfl rfl ?_ | refine jo rfl rfl (load_dsem (r := ty3) rfl rfl rfl hg) rfl rfl ?_ | refine jo rfl rfl (index_arr rfl rfl rfl rfl rfl a0 a8) rfl rfl ?_ | refine jo rfl rfl (load_dsem (r := ty3) rfl rfl rfl hg2) rfl rfl ?_ | refine jv h1 rfl rfl rfl rfl rfl ?_)
  refine jbp [] h2 rfl rfl rfl ⟨rfl, rfl, rfl, rfl, rfl, rfl⟩ rfl rfl rfl ?_
  exact qpan [] true rfl rfl rfl rfl
theorem smark_ok (w : Wd) (k : Nat) (t : Thr) (i : Ins) (tag : Int) (h : TsR w.tso) (htg : tag = 1 ∨ tag = 2) (a0 : 0 ≤ i.a) (a8 : i.a < 8) (b0 : 0 ≤ i.b) (b8 : i.b < 8) (he : (mMark w.tso.mem (rg t i.a) (rg t i.b) tag).2 = 0) :
    ACalls Tryz.prog 187 [.ptr 0 0, iv tag] (swH w k t i) (one (.tup []) (swH { w with tso := { w.tso with mem := (mMark w.tso.mem (rg t i.a) (rg t i.b) tag).1 } } k t i)) := by
  have h1 := mark_ok w.tso.mem (rg t i.a) (rg t i.b) tag h.mem htg
  have h2 := must_ok
  rw [he] at h1
  generalize (mMark w.tso.mem (rg t i.a) (rg t i.b) tag).1 = v at *
  have hg := sw_get w k t i b0 b8
  have hg2 := sw_get w k t i a0 a8
  unfold encMem mCells ivs at h1
  unfold swH
  unfold swC at *
  refine jcalls Tryz.func187 rfl (by kernel_rfl) Tryz.ntmps187 rfl rfl (fun w0 β0 ext hβ => ?_)
  repeat (first | refine js rfl ?_ | (refine jdraw ?_ ?_; · kernel_rfl) | refine jbu rfl rfl rfl rfl ?_ | refine jo rfl rfl (index_arr rfl rfl rfl rfl rfl b0 b8) rfl rfl ?_ | refine jo rfl rfl (load_dsem (r := ty3) rfl rfl rfl hg) rfl rfl ?_ | refine jo rfl rfl (index_arr rfl rfl rfl rfl rfl a0 a8) rfl rfl ?_ | refine jo rfl rfl (load_dsem (r := ty3) rfl rfl rfl hg2) rfl rfl ?_ | refine jv h1 rfl rfl rfl rfl rfl ?_ | refine jv h2 rfl rfl rfl rfl rfl ?_)
  exact jend [] true rfl rfl rfl ⟨rfl, rfl⟩
theorem smark_pan (w : Wd) (k : Nat) (t : Thr) (i : Ins) (tag : Int) (h : TsR w.tso) (htg : tag = 1 ∨ tag = 2) (a0 : 0 ≤ i.a) (a8 : i.a < 8) (b0 : 0 ≤ i.b) (b8 : i.b < 8) (he : (mMark w.tso.mem (rg t i.a) (rg t i.b) tag).2 ≠ 0) :
    ACalls Tryz.prog 187 [.ptr 0 0, iv tag] (swH w k t i) (onep (fltA (mMark w.tso.mem (rg t i.a) (rg t i.b) tag).2) (swH w k t i)) := by
  have h1 := mark_ok w.tso.mem (rg t i.a) (rg t i.b) tag h.mem htg
  have h2 := must_pan _ he
  generalize mMark w.tso.mem (rg t i.a) (rg t i.b) tag = v at *
  obtain ⟨v, e⟩ := v
  simp only at *
  have hg := sw_get w k t i b0 b8
  have hg2 := sw_get w k t i a0 a8
  unfold encMem mCells ivs at h1
  unfold swH
  unfold swC at *
  refine jcalls Tryz.func187 rfl (by kernel_rfl) Tryz.ntmps187 rfl rfl (fun w0 β0 ext hβ => ?_)
  repeat (first | refine js rfl ?_ | (refine jdraw ?_ ?_; · kernel_rfl) | refine jbu rfl rfl rfl rfl ?_ | refine jo rfl rfl (index_arr rfl rfl rfl rfl rfl b0 b8) rfl rfl ?_ | refine jo rfl rfl (load_dsem (r := ty3) rfl rfl rfl hg) rfl rfl ?_ | refine jo rfl rfl (index_arr rfl rfl rfl rfl rfl a0 a8) rfl rfl ?_ | refine jo rfl rfl (load_dsem (r := ty3) rfl rfl rfl hg2) rfl rfl ?_ | refine jv h1 rfl rfl rfl rfl rfl ?_)
  refine jbp [] h2 rfl rfl rfl ⟨rfl, rfl, rfl, rfl, rfl, rfl⟩ rfl rfl rfl ?_
  exact qpan [] true rfl rfl rfl rfl
theorem slocked_ok (w : Wd) (k : Nat) (t : Thr) (i : Ins) (kd y : Int) (h : TsR w.tso) (hk : k < w.tso.bufs.length) (hkd : kd = 0 ∨ kd = 1 ∨ kd = 2) (a0 : 0 ≤ i.a) (a8 : i.a < 8) (b0 : 0 ≤ i.b) (b8 : i.b < 8)
    (he : (tsLocked w.tso k kd (rg t i.b) (rg t i.a) y).2.2 = 0) :
    ACalls Tryz.prog 185 [.ptr 0 0, iv kd, iv y] (swH w k t i)
      (one (.tup []) (swH { w with tso := (tsLocked w.tso k kd (rg t i.b) (rg t i.a) y).1 } k (setR t i.a (tsLocked w.tso k kd (rg t i.b) (rg t i.a) y).2.1) i)) := by
  have h1 := locked_ok w.tso k kd (rg t i.b) (rg t i.a) y h hk hkd
  have h2 := must_ok
  rw [he] at h1
  generalize (tsLocked w.tso k kd (rg t i.b) (rg t i.a) y).1 = ts at *
  generalize (tsLocked w.tso k kd (rg t i.b) (rg t i.a) y).2.1 = v at *
  have hg := sw_get w k t i b0 b8
  have hg2 := sw_get w k t i a0 a8
  have hs := sw_set { w with tso := ts } k t i v a0 a8
  have hle : 8 + 1 + i.a.toNat * ty3.size + 1 ≤ 25 := by show 8 + 1 + i.a.toNat * 1 + 1 ≤ 25; omega
  unfold encTso tCells ivs at h1
  unfold swH
  unfold swC at *
  refine jcalls Tryz.func185 rfl (by kernel_rfl) Tryz.ntmps185 rfl rfl (fun w0 β0 ext hβ => ?_)
  repeat (first | refine js rfl ?_ | (refine jdraw ?_ ?_; · kernel_rfl) | refine jbu rfl rfl rfl rfl ?_ | refine jo rfl rfl (index_arr rfl rfl rfl rfl rfl b0 b8) rfl rfl ?_ | refine jo rfl rfl (load_dsem (r := ty3) rfl rfl rfl hg) rfl rfl ?_ | refine jo rfl rfl (index_arr rfl rfl rfl rfl rfl a0 a8) rfl rfl ?_ | refine jo rfl rfl (load_dsem (r := ty3) rfl rfl rfl hg2) rfl rfl ?_ | refine jv h1 rfl rfl rfl rfl rfl ?_ | refine jv h2 rfl rfl rfl rfl rfl ?_ | refine jo rfl rfl (store_box (r' := ty3) (v := iv v) rfl rfl rfl rfl rfl rfl hle hs) rfl rfl ?_)
  exact jend [] true rfl rfl rfl ⟨rfl, rfl⟩
theorem slocked_pan (w : Wd) (k : Nat) (t : Thr) (i : Ins) (kd y : Int) (h : TsR w.tso) (hk : k < w.tso.bufs.length) (hkd : kd = 0 ∨ kd = 1 ∨ kd = 2) (a0 : 0 ≤ i.a) (a8 : i.a < 8) (b0 : 0 ≤ i.b) (b8 : i.b < 8)
    (he : (tsLocked w.tso k kd (rg t i.b) (rg t i.a) y).2.2 ≠ 0) :
    ACalls Tryz.prog 185 [.ptr 0 0, iv kd, iv y] (swH w k t i) (onep (fltA (tsLocked w.tso k kd (rg t i.b) (rg t i.a) y).2.2) (swH w k t i)) := by
  have h1 := locked_ok w.tso k kd (rg t i.b) (rg t i.a) y h hk hkd
  have h2 := must_pan _ he
  generalize tsLocked w.tso k kd (rg t i.b) (rg t i.a) y = v at *
  obtain ⟨v, v2, e⟩ := v
  simp only at *
  have hg := sw_get w k t i b0 b8
  have hg2 := sw_get w k t i a0 a8
  unfold encTso tCells ivs at h1
  unfold swH
  unfold swC at *
  refine jcalls Tryz.func185 rfl (by kernel_rfl) Tryz.ntmps185 rfl rfl (fun w0 β0 ext hβ => ?_)
  repeat (first | refine js rfl ?_ | (refine jdraw ?_ ?_; · kernel_rfl) | refine jbu rfl rfl rfl rfl ?_ | refine jo rfl rfl (index_arr rfl rfl rfl rfl rfl b0 b8) rfl rfl ?_ | refine jo rfl rfl (load_dsem (r := ty3) rfl rfl rfl hg) rfl rfl ?_ | refine jo rfl rfl (index_arr rfl rfl rfl rfl rfl a0 a8) rfl rfl ?_ | refine jo rfl rfl (load_dsem (r := ty3) rfl rfl rfl hg2) rfl rfl ?_ | refine jv h1 rfl rfl rfl rfl rfl ?_)
  refine jbp [] h2 rfl rfl rfl ⟨rfl, rfl, rfl, rfl, rfl, rfl⟩ rfl rfl rfl ?_
  exact qpan [] true rfl rfl rfl rfl
theorem inv_box {ext : Nat → Prop} {w : World} {β : List Ent} {bt : TypeId} {cs cs' : List AVal} (hI : Inv ext w [.box bt cs] β) (ho : cs'.all AVal.one = true) (hr : ∀ (c : Ctx) us, RelL c cs us → RelL c cs' us) : Inv ext w [.box bt cs'] β := by
  refine ⟨hI.len, fun i o e hi he => ?_, hI.uniq, hI.sep⟩
  match i with
  | 0 =>
    simp at hi; subst hi
    obtain ⟨g1, g2, b, us, g3, g4, g5⟩ := hI.obj 0 _ e rfl he
    exact ⟨g1, ho, b, us, g3, g4, hr _ _ g5⟩
  | i + 1 => simp at hi
theorem acalls_box {f : FuncId} {args : List AVal} {H : List AObj} {v : AVal} {bt : TypeId} {cs cs' : List AVal} (h : ACalls Tryz.prog f args H (one v [.box bt cs])) (ho : cs'.all AVal.one = true) (hr : ∀ (c : Ctx) us, RelL c cs us → RelL c cs' us) : ACalls Tryz.prog f args H (one v [.box bt cs']) := by
  refine ⟨h.enters, fun ext w β us hI hx hrr => (h.calls ext w β us hI hx hrr).mono fun e w' he => ?_⟩
  cases e with
  | returned u =>
    obtain ⟨v1, H', β', ⟨q1, q2⟩, h2, h3, h4⟩ := he
    subst q2
    exact ⟨v1, _, β', ⟨q1, rfl⟩, h2, inv_box h3 ho hr, h4⟩
  | panicked ch => obtain ⟨u, _, v1, H', β', ⟨q1, q2⟩, _⟩ := he; cases q1
  | outgrown => exact he.elim
theorem relL_set {c : Ctx} {y : AVal} : ∀ {cs : List AVal} {us : List Value} {n : Nat} {x : AVal}, cs[n]? = some x → (∀ u, Rel c x u → Rel c y u) → RelL c cs us → RelL c (cs.set n y) us
  | [], _, n, x, h, _, _ => by simp at h
  | a :: cs, _, 0, x, h, hr, ⟨u, us, e, r, rs⟩ => by
    simp at h; subst h
    exact ⟨u, us, e, hr u r, rs⟩
  | a :: cs, _, n + 1, x, h, hr, ⟨u, us, e, r, rs⟩ => ⟨u, us, e, r, relL_set (by simpa using h) hr rs⟩
def swX (w : Wd) (k : Int) (t : Thr) (i : Ins) (x : AVal) : List AVal :=
  [.sl (w.code.map encIns), .sl (w.tso.mem.words.map iv), .sl (w.tso.mem.tags.map iv), iv w.tso.depth, .sl (w.tso.bufs.map encBuf), .sl (w.thr.map encThr), .sl (w.evs.map encEvt), iv k,
   iv t.pc, iv (g0 t.regs 0), iv (g0 t.regs 1), iv (g0 t.regs 2), iv (g0 t.regs 3), iv (g0 t.regs 4), iv (g0 t.regs 5), iv (g0 t.regs 6), iv (g0 t.regs 7), .sl (t.frames.map encFrm), iv t.state, iv t.fault, x, iv i.op, iv i.a, iv i.b, iv i.c]
theorem swX_rel {w : Wd} {k : Int} {t : Thr} {i : Ins} {x y : AVal} (hr : ∀ (c : Ctx) u, Rel c x u → Rel c y u) (c : Ctx) (us : List Value) (h : RelL c (swX w k t i x) us) : RelL c (swX w k t i y) us :=
  relL_set (n := 20) (x := x) rfl (hr c) h
theorem sbroad_some (w : Wd) (k : Nat) (t : Thr) (i : Ins) (hl : 0 < t.left.length) :
    ACalls Tryz.prog 186 [.ptr 0 0] (swH w k t i) (one (.tup []) (swH w k { t with left := [] } i)) := by
  have hd : decide (((t.left.map iv).length : Int) > 0) = true := decide_eq_true (by rw [List.length_map]; omega)
  have h0 : ACalls Tryz.prog 186 [.ptr 0 0] (swH w k t i) (one (.tup []) [.box 238 (swX w k t i (.slf []))]) := by
    unfold swH swC swX
    refine jcalls Tryz.func186 rfl (by kernel_rfl) Tryz.ntmps186 rfl rfl (fun w0 β0 ext hβ => ?_)
    repeat (first | refine js rfl ?_ | (refine jdraw ?_ ?_; · kernel_rfl) | refine jbu rfl rfl rfl rfl ?_)
    rw [hd]
    repeat (first | refine js rfl ?_ | (refine jdraw ?_ ?_; · kernel_rfl) | refine jbu rfl rfl rfl rfl ?_)
    exact jret [] false rfl rfl rfl ⟨rfl, rfl⟩
  exact acalls_box h0 rfl (swX_rel fun c u h => slf_slz h)
theorem lens_take {b : List (List Wput)} {q : Nat} (h : q < b.length) : lens (b.take (q + 1)) = lens (b.take q) ++ [((at' b (q : Int)).length : Int)] := by
  unfold lens
  rw [at_nat b q h, List.take_add_one, List.getElem?_eq_getElem h, List.map_append]
  rfl
theorem sbroad_none (w : Wd) (k : Nat) (t : Thr) (i : Ins) (hl : t.left = []) (hp : 1 ≤ t.pc) (hp2 : t.pc ≤ 1001) (hb : 1 ≤ w.tso.bufs.length) (hb8 : w.tso.bufs.length ≤ 8) :
    ACalls Tryz.prog 186 [.ptr 0 0] (swH w k t i) (one (.tup []) (swH w k { t with pc := t.pc - 1, left := lens w.tso.bufs } i)) := by
  have hw : IntKind.i64.wrap (t.pc - 1) = t.pc - 1 := by rw [wrap_id] <;> omega
  have h0 : ACalls Tryz.prog 186 [.ptr 0 0] (swH w k t i) (one (.tup []) [.box 238 (swX w k { t with pc := t.pc - 1 } i (.sl ((lens w.tso.bufs).map iv)))]) := by
    have e0 : swC w k t i = swX w k t i (.slz []) := by unfold swC swX; rw [hl]; rfl
    unfold swH
    rw [e0]
    unfold swX
    refine jcalls Tryz.func186 rfl (by kernel_rfl) Tryz.ntmps186 rfl rfl (fun w0 β0 ext hβ => ?_)
    refine jweakB 0 (swX w k t i (.slf [])) rfl rfl rfl (swX_rel fun c u h => slz_slf h) ?_
    unfold swX
    repeat (first | refine js rfl ?_ | (refine jdraw ?_ ?_; · kernel_rfl) | refine jbu rfl rfl rfl rfl ?_)
    rw [hw]
    repeat (first | refine js rfl ?_ | (refine jdraw ?_ ?_; · kernel_rfl) | refine jbu rfl rfl rfl rfl ?_)
    refine jadB 0 20 3 1 rfl rfl rfl rfl ?_
    refine jloopI (fun q : Nat => q ≤ w.tso.bufs.length) [0, 29, 30, 31] (fun q => [.ptr 0 0, .sl (w.tso.bufs.map encBuf), .v (.int .i64 ((w.tso.bufs.map encBuf).length : Int)), .v (.int .i64 (q : Int))])
      (fun q => [.box 238 (swX w k { t with pc := t.pc - 1 } i (.arr 1 (q + 1))), .arr (q + 1) 3 1 ((lens (w.tso.bufs.take q)).map iv)]) (fun q => w.tso.bufs.length - q) 0 (Nat.zero_le _) rfl rfl (fun q hq => ?_)
    unfold swX
    simp only
    repeat (first | refine js rfl ?_ | (refine jdraw ?_ ?_; · kernel_rfl) | refine jbu rfl rfl rfl rfl ?_)
    refine jc rfl rfl rfl (fun h => ?_) (fun h => ?_)
    · have h := of_decide_eq_true h
      rw [List.length_map] at h
      have hq2 : q < w.tso.bufs.length := by omega
      have hlt := lens_take hq2
      have hll : (lens (w.tso.bufs.take q)).length ≤ 8 := by unfold lens; rw [List.length_map, List.length_take]; omega
      repeat (first | refine js rfl ?_ | (refine jdraw ?_ ?_; · kernel_rfl) | refine jbu rfl rfl rfl rfl ?_ | refine jo rfl rfl (index_at rfl rfl rfl rfl rfl rfl rfl rfl (Int.natCast_nonneg q) h) rfl rfl ?_)
      rw [show (((at' w.tso.bufs (q : Int)).map encPut).length : Int) = ((at' w.tso.bufs (q : Int)).length : Int) by rw [List.length_map]]
      repeat (first | refine js rfl ?_ | (refine jdraw ?_ ?_; · kernel_rfl) | refine jbu rfl rfl rfl rfl ?_)
      refine jo rfl rfl (append_enc (enc := iv) (l := lens (w.tso.bufs.take q)) ((at' w.tso.bufs (q : Int)).length : Int) rfl rfl rfl rfl rfl rfl rfl rfl rfl rfl (fun x => ⟨rfl, rfl⟩) rfl (by omega) rfl rfl) rfl rfl ?_
      rw [← hlt]
      repeat (first | refine js rfl ?_ | (refine jdraw ?_ ?_; · kernel_rfl) | refine jbu rfl rfl rfl rfl ?_)
      refine jnextI (q + 1) hq2 ?_ rfl (by omega)
      show some _ = some _
      rw [idx_next hq2 (by omega)]
    · have h := of_decide_eq_false h
      rw [List.length_map] at h
      have : q = w.tso.bufs.length := by omega
      subst this
      rw [List.take_length]
      repeat (first | refine js rfl ?_ | (refine jdraw ?_ ?_; · kernel_rfl) | refine jbu rfl rfl rfl rfl ?_)
      rcases (by omega : w.tso.bufs.length = 1 ∨ w.tso.bufs.length = 2 ∨ w.tso.bufs.length = 3 ∨ w.tso.bufs.length = 4 ∨ w.tso.bufs.length = 5 ∨ w.tso.bufs.length = 6 ∨ w.tso.bufs.length = 7 ∨ w.tso.bufs.length = 8) with e | e | e | e | e | e | e | e
      all_goals rw [e]
      all_goals exact jend [] true rfl rfl rfl ⟨rfl, rfl⟩
  refine acalls_box h0 rfl (swX_rel fun c u h => ?_)
  unfold lens at *
  cases hbb : w.tso.bufs with
  | nil => rw [hbb] at hb; simp at hb
  | cons x r => rw [hbb] at h; exact sl_slz h
end Go.AL
end
