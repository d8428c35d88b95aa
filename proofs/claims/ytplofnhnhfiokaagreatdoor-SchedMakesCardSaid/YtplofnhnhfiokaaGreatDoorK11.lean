/-
  Part 11 of the proof texts: the program logic over the model, then the contracts of the functions that the laws reach. No conditions.
-/
import Derived.Test.YtplofnhnhfiokaaGreatDoorK10
import Derived.WalkKit
import Derived.LaidEql
import Derived.Stop.Asserts
import Derived.RowKitTokens
import Derived.Test.YtplofnhnhfiokaaGreatDoorRows
import Derived.JoinedOf
import Derived.JoinedAt
import Derived.RowKit3
import Derived.LaidMore
import Derived.Lib.LaidTab
import Derived.Stop.LaidErr
import Derived.Lay
import Derived.LaidSub
import Derived.LaidHandle
import Derived.ChangeArms
set_option linter.unusedVariables false
set_option linter.unusedSimpArgs false
section
set_option maxRecDepth 100000
namespace Go.AL
open Go Go.Proofs
attribute [local irreducible] J
def thrP (a : Int) : Thr := { thr0 with pc := a }
def newOk (code : List Ins) (st : List Int) (m : Mem) (d : Int) : Wd := ⟨code, ⟨m, d, List.replicate st.length []⟩, st.map thrP, []⟩
def newW (code : List Ins) (st : List Int) (m : Mem) (d : Int) : Wd × Int :=
  cond (rightC code && mRight m) (cond (inn st.length 1 8 && inn d 0 8) (cond (st.all fun a => inn a 0 code.length) (newOk code st m d, 0) (wd0, 3)) (wd0, 2)) (wd0, 1)
theorem thr_weak (a : Int) (c : Ctx) (u : Value) (h : Rel c (.agg [iv a, iv 0, iv 0, iv 0, iv 0, iv 0, iv 0, iv 0, iv 0, .slf [], iv 0, iv 0, .slf []]) u) : Rel c (encThr (thrP a)) u := by
  obtain ⟨cs, e, h⟩ := h
  refine ⟨cs, e, ?_⟩
  revert h
  have key : ∀ us, RelL c [iv a, iv 0, iv 0, iv 0, iv 0, iv 0, iv 0, iv 0, iv 0, .slf [], iv 0, iv 0, .slf []] us → RelL c [iv a, iv 0, iv 0, iv 0, iv 0, iv 0, iv 0, iv 0, iv 0, .sl [], iv 0, iv 0, .slz []] us := by
    iterate 9 refine relL_cons (fun u h => h) ?_
    refine relL_cons (fun u h => sl_weak h) ?_
    iterate 2 refine relL_cons (fun u h => h) ?_
    exact relL_cons (fun u h => slf_slz h) (fun us h => h)
  exact key _
theorem elemsP (l : List Int) : ∀ x : Int, (encThr (thrP x)).cells.length = 13 ∧ (encThr (thrP x)).flat = true := fun x => ⟨rfl, rfl⟩
theorem wnew_ok (code : List Ins) (st : List Int) (m : Mem) (d : Int) (hc : code.length ≤ 1000000) (hs : st.length ≤ 1000000) (hm : m.words.length ≤ 1000000 ∧ m.tags.length ≤ 1000000) :
    ACalls Tryz.prog 44 [encIs code, ivs st, encMem m, iv d] [] (one (.tup [encWd (newW code st m d).1, iv (newW code st m d).2]) []) := by
  have h1 := right_ok code hc
  have h2 := mem_right m hm.1 hm.2
  have h3 := tnew_ok m (st.length : Int) d hm
  unfold newW
  cases b1 : rightC code with
  | false =>
    rw [b1] at h1
    unfold encIs at h1
    unfold encWd wCells encIs ivs encMem mCells at *
    refine jcalls Tryz.func44 rfl (by kernel_rfl) Tryz.ntmps44 rfl rfl (fun w0 β0 ext hβ => ?_)
    repeat (first | refine js rfl ?_ | (refine jdraw ?_ ?_; · kernel_rfl) | refine jbu rfl rfl rfl rfl ?_ | refine jv h1 rfl rfl rfl rfl rfl ?_)
    exact jr rfl rfl rfl rfl
  | true =>
    rw [b1] at h1
    cases b2 : mRight m with
    | false =>
      rw [b2] at h2
      unfold encIs at h1
      unfold encWd wCells encIs ivs encMem mCells at *
      unfold ivs at *
      refine jcalls Tryz.func44 rfl (by kernel_rfl) Tryz.ntmps44 rfl rfl (fun w0 β0 ext hβ => ?_)
      repeat (first | refine js rfl ?_ | (refine jdraw ?_ ?_; · kernel_rfl) | refine jbu rfl rfl rfl rfl ?_ | refine jv h1 rfl rfl rfl rfl rfl ?_ | refine jv h2 rfl rfl rfl rfl rfl ?_)
      exact jr rfl rfl rfl rfl
    | true =>
      rw [b2] at h2 h3
      have hlm : ((st.map iv).length : Int) = (st.length : Int) := by rw [List.length_map]
      cases b3 : (inn (st.length : Int) 1 8 && inn d 0 8) with
      | false =>
        rw [b3] at h3
        unfold encIs at h1
        unfold encTso tCells at h3
        unfold encWd wCells encIs encMem mCells at *
        unfold ivs at *
        refine jcalls Tryz.func44 rfl (by kernel_rfl) Tryz.ntmps44 rfl rfl (fun w0 β0 ext hβ => ?_)
        repeat (first | refine js rfl ?_ | (refine jdraw ?_ ?_; · kernel_rfl) | refine jbu rfl rfl rfl rfl ?_ | refine jv h1 rfl rfl rfl rfl rfl ?_ | refine jv h2 rfl rfl rfl rfl rfl ?_)
        rw [hlm]
        repeat (first | refine js rfl ?_ | (refine jdraw ?_ ?_; · kernel_rfl) | refine jbu rfl rfl rfl rfl ?_ | refine jv h3 rfl rfl rfl rfl rfl ?_)
        exact jr rfl rfl rfl rfl
      | true =>
        rw [b3] at h3
        simp only [Bool.and_true, cond_true, Int.toNat_natCast] at h3 ⊢
        have b3' := (Bool.and_eq_true _ _ ▸ b3)
        have hs8 := inn_iff.1 b3'.1
        obtain ⟨hz1, hz2⟩ := allAt (l := st) (p := fun a => inn a 0 (code.length : Int))
        unfold encIs at h1
        unfold encTso tCells at h3
        unfold encWd wCells encIs encMem mCells at *
        unfold ivs at *
        refine jcalls Tryz.func44 rfl (by kernel_rfl) Tryz.ntmps44 rfl rfl (fun w0 β0 ext hβ => ?_)
        repeat (first | refine js rfl ?_ | (refine jdraw ?_ ?_; · kernel_rfl) | refine jbu rfl rfl rfl rfl ?_ | refine jv h1 rfl rfl rfl rfl rfl ?_ | refine jv h2 rfl rfl rfl rfl rfl ?_)
        rw [hlm]
        repeat (first | refine js rfl ?_ | (refine jdraw ?_ ?_; · kernel_rfl) | refine jbu rfl rfl rfl rfl ?_ | refine jv h3 rfl rfl rfl rfl rfl ?_)
        refine jadB 3 5 53 13 rfl rfl rfl rfl ?_
        refine jloopI (fun q : Nat => q ≤ st.length ∧ ∀ p, p < q → inn (at' st (p : Int)) 0 (code.length : Int) = true) [0, 8, 9, 12, 39, 40, 41] (fun q => [.sl (code.map encIns), .ptr 1 0, iv 0, .ptr 3 0, .sl (st.map iv), .v (.int .i64 ((st.map iv).length : Int)), .v (.int .i64 (q : Int))])
          (fun q => [.box 25 [.sl (m.words.map iv), .sl (m.tags.map iv)], .box 33 [.slf [], .slf [], .slf [], iv 0, .slf [], .slf [], .slf []], .box 29 [.sl (m.words.map iv), .sl (m.tags.map iv), iv d, .sl ((List.replicate st.length ([] : List Wput)).map encBuf)],
            .box 33 [.sl (code.map encIns), .sl (m.words.map iv), .sl (m.tags.map iv), iv d, .sl ((List.replicate st.length ([] : List Wput)).map encBuf), .arr 4 (q + 1), .slf []], .arr (q + 1) 53 13 ((st.take q).map fun a => encThr (thrP a))]) (fun q => st.length - q) 0 ⟨Nat.zero_le _, fun p hp => absurd hp (Nat.not_lt_zero _)⟩ rfl rfl (fun q hq => ?_)
        obtain ⟨hq, hok⟩ := hq
        repeat (first | refine js rfl ?_ | (refine jdraw ?_ ?_; · kernel_rfl) | refine jbu rfl rfl rfl rfl ?_)
        refine jc rfl rfl rfl (fun h => ?_) (fun h => ?_)
        · have h := of_decide_eq_true h
          rw [List.length_map] at h
          have hq2 : q < st.length := by omega
          have hidx : IntKind.i64.wrap ((q : Int) + 1) = ((q + 1 : Nat) : Int) := idx_next hq2 (by omega)
          have htk : (st.take q) ++ [at' st (q : Int)] = st.take (q + 1) := by rw [at_nat st q hq2, List.take_add_one, List.getElem?_eq_getElem hq2]; rfl
          have hln : (st.take q).length ≤ 8 := by rw [List.length_take]; omega
          have hno := hz2 q hq2
          have hnx : inn (at' st (q : Int)) 0 (code.length : Int) = true → ∀ p, p < q + 1 → inn (at' st (p : Int)) 0 (code.length : Int) = true := fun hb p hp => by
            by_cases e : p = q
            · subst e; exact hb
            · exact hok p (by omega)
          repeat (first | refine js rfl ?_ | (refine jdraw ?_ ?_; · kernel_rfl) | refine jbu rfl rfl rfl rfl ?_ | refine jo rfl rfl (index_at rfl rfl rfl rfl rfl rfl rfl rfl (Int.natCast_nonneg q) h) rfl rfl ?_)
          generalize at' st (q : Int) = a at *
          by_cases g1 : a < 0
          · rw [show decide (a < 0) = true from decide_eq_true g1]
            rw [hno (by cases hi : inn a 0 (code.length : Int) with | false => rfl | true => have := inn_iff.1 hi; omega)]
            repeat (first | refine js rfl ?_ | (refine jdraw ?_ ?_; · kernel_rfl) | refine jbu rfl rfl rfl rfl ?_)
            exact jr rfl rfl rfl rfl
          · rw [show decide (a < 0) = false from decide_eq_false g1]
            repeat (first | refine js rfl ?_ | (refine jdraw ?_ ?_; · kernel_rfl) | refine jbu rfl rfl rfl rfl ?_)
            by_cases g2 : a > (code.length : Int)
            · rw [show decide (a > (((code.map encIns).length : Nat) : Int)) = true from decide_eq_true (by rw [List.length_map]; exact g2)]
              rw [hno (by cases hi : inn a 0 (code.length : Int) with | false => rfl | true => have := inn_iff.1 hi; omega)]
              repeat (first | refine js rfl ?_ | (refine jdraw ?_ ?_; · kernel_rfl) | refine jbu rfl rfl rfl rfl ?_)
              exact jr rfl rfl rfl rfl
            · rw [show decide (a > (((code.map encIns).length : Nat) : Int)) = false from decide_eq_false (by rw [List.length_map]; exact g2)]
              repeat (first | refine jow rfl rfl (readP_dsem rfl) (thr_weak _) rfl rfl ?_ | refine js rfl ?_ | (refine jdraw ?_ ?_; · kernel_rfl) | refine jbu rfl rfl rfl rfl ?_)
              refine jo rfl rfl (append_enc (enc := fun a => encThr (thrP a)) (l := st.take q) a rfl rfl rfl rfl rfl rfl rfl rfl rfl rfl (elemsP []) rfl (by omega) rfl rfl) rfl rfl ?_
              rw [htk]
              repeat (first | refine js rfl ?_ | (refine jdraw ?_ ?_; · kernel_rfl) | refine jbu rfl rfl rfl rfl ?_)
              refine jnextI (q + 1) ⟨by omega, hnx (inn_iff.2 ⟨by omega, by omega⟩)⟩ ?_ rfl (by omega)
              show some _ = some _
              rw [hidx]
        · have h := of_decide_eq_false h
          rw [List.length_map] at h
          have : q = st.length := by omega
          subst this
          rw [hz1 fun p hp => hok p (by omega), List.take_length]
          repeat (first | refine js rfl ?_ | (refine jdraw ?_ ?_; · kernel_rfl) | refine jbu rfl rfl rfl rfl ?_)
          have he : (st.map thrP).map encThr = st.map fun a => encThr (thrP a) := by rw [List.map_map]; rfl
          unfold newOk
          simp only [cond_true]
          rw [he]
          rcases (by omega : st.length = 1 ∨ st.length = 2 ∨ st.length = 3 ∨ st.length = 4 ∨ st.length = 5 ∨ st.length = 6 ∨ st.length = 7 ∨ st.length = 8) with e | e | e | e | e | e | e | e
          all_goals rw [e]
          all_goals exact jret [] true rfl rfl rfl ⟨rfl, rfl⟩
end Go.AL
end
section
set_option maxRecDepth 100000
namespace Go.AL
open Go Go.Proofs
attribute [local irreducible] J
def stAt (s : Bs) (ls : List Bs) : List Int := ls.map fun l => (whereP s l).1
theorem stAt_take (s : Bs) (ls : List Bs) {q : Nat} (h : q < ls.length) : stAt s (ls.take (q + 1)) = stAt s (ls.take q) ++ [(whereP s (at' ls (q : Int))).1] := by
  unfold stAt
  rw [at_nat ls q h, List.take_add_one, List.getElem?_eq_getElem h, List.map_append]
  rfl
theorem starts_ok (g : Gl) (s : Bs) (ls : List Bs) (hs : s.length ≤ 1000000) (hl : ls.length ≤ 1000) (hall : ∀ l ∈ ls, (whereP s l).2 = 0) :
    ACalls Tryz.prog 42 [sv s, .sl (ls.map sv)] (gls g) (one (.tup [ivs (stAt s ls), .v .nilIface]) (gls g)) := by
  have hw := fun w => where_ok g s w hs
  unfold gls at *
  refine jcalls Tryz.func42 rfl (by kernel_rfl) Tryz.ntmps42 rfl rfl (fun w0 β0 ext hβ => ?_)
  refine js rfl ?_; refine js rfl ?_; refine js rfl ?_
  refine js rfl ?_; refine js rfl ?_; refine js rfl ?_
  refine js rfl ?_
  refine js rfl ?_
  repeat (first | refine jad 6 3 1 rfl rfl rfl rfl ?_ | refine js rfl ?_ | (refine jdraw ?_ ?_; · kernel_rfl) | refine jbu rfl rfl rfl rfl ?_)
  refine jloopI (ι := Nat) (fun q => q ≤ ls.length) [0, 4, 5, 6, 11, 12, 13] (fun q => [sv s, .slf [], .v .nilIface, .arr 4 (q + 1), .sl (ls.map sv), .v (.int .i64 ((ls.map sv).length : Int)), .v (.int .i64 (q : Int))])
    (fun q => [g.a, g.b, g.c, g.d, .arr (q + 1) 3 1 ((stAt s (ls.take q)).map iv)]) (fun q => ls.length - q) 0 (Nat.zero_le _) rfl rfl (fun q hq => ?_)
  repeat (first | refine js rfl ?_ | (refine jdraw ?_ ?_; · kernel_rfl) | refine jbu rfl rfl rfl rfl ?_)
  refine jc rfl rfl rfl (fun h => ?_) (fun h => ?_)
  · have h := of_decide_eq_true h
    rw [List.length_map] at h
    have hq2 : q < ls.length := by omega
    have hidx : IntKind.i64.wrap ((q : Int) + 1) = ((q + 1 : Nat) : Int) := idx_next hq2 (by omega)
    have htk := stAt_take s ls hq2
    have hw := hw (at' ls (q : Int))
    have h0 := hall _ (at_mem hq2)
    have hln : (stAt s (ls.take q)).length ≤ 1000 := by unfold stAt; rw [List.length_map, List.length_take]; omega
    generalize whereP s (at' ls (q : Int)) = r at *
    obtain ⟨r1, r2⟩ := r
    simp only at h0 htk
    subst h0
    repeat (first | refine js rfl ?_ | (refine jdraw ?_ ?_; · kernel_rfl) | refine jbu rfl rfl rfl rfl ?_ | refine jo rfl rfl (index_at rfl rfl rfl rfl rfl rfl rfl rfl (Int.natCast_nonneg q) h) rfl rfl ?_)
    refine jb [0,1,2,3] hw rfl rfl rfl ⟨rfl, rfl, rfl, rfl, rfl, rfl⟩ rfl rfl rfl rfl ?_
    repeat (first | refine js rfl ?_ | (refine jdraw ?_ ?_; · kernel_rfl) | refine jbu rfl rfl rfl rfl ?_)
    refine jo rfl rfl (append_enc (enc := iv) (l := stAt s (ls.take q)) r1 rfl rfl rfl rfl rfl rfl rfl rfl rfl rfl (fun x => ⟨rfl, rfl⟩) rfl (by omega) rfl rfl) rfl rfl ?_
    rw [← htk]
    repeat (first | refine js rfl ?_ | (refine jdraw ?_ ?_; · kernel_rfl) | refine jbu rfl rfl rfl rfl ?_)
    refine jnextI (q + 1) hq2 ?_ rfl (by omega)
    show some _ = some _
    rw [hidx]
  · have h := of_decide_eq_false h
    rw [List.length_map] at h
    have : q = ls.length := by omega
    subst this
    rw [List.take_length]
    refine jpub 6 rfl rfl rfl rfl ?_
    repeat (first | refine js rfl ?_ | (refine jdraw ?_ ?_; · kernel_rfl) | refine jbu rfl rfl rfl rfl ?_)
    exact jret [] true rfl rfl rfl ⟨rfl, rfl⟩
theorem starts_bad (g : Gl) (s : Bs) (ls : List Bs) (k : Nat) (hs : s.length ≤ 1000000) (hl : ls.length ≤ 1000) (hk : k < ls.length) (hok : ∀ p, p < k → (whereP s (at' ls (p : Int))).2 = 0) (hbad : (whereP s (at' ls (k : Int))).2 ≠ 0) :
    ACalls Tryz.prog 42 [sv s, .sl (ls.map sv)] (gls g) (one (.tup [.sl [], .ifc 91 (.agg [sv (at' ls (k : Int))])]) (gls g)) := by
  have hw := fun w => where_ok g s w hs
  unfold gls at *
  refine jcalls Tryz.func42 rfl (by kernel_rfl) Tryz.ntmps42 rfl rfl (fun w0 β0 ext hβ => ?_)
  refine js rfl ?_; refine js rfl ?_; refine js rfl ?_
  refine js rfl ?_; refine js rfl ?_; refine js rfl ?_
  refine js rfl ?_
  refine js rfl ?_
  repeat (first | refine jad 6 3 1 rfl rfl rfl rfl ?_ | refine js rfl ?_ | (refine jdraw ?_ ?_; · kernel_rfl) | refine jbu rfl rfl rfl rfl ?_)
  refine jloopI (ι := Nat) (fun q => q ≤ k) [0, 4, 5, 6, 11, 12, 13] (fun q => [sv s, .slf [], .v .nilIface, .arr 4 (q + 1), .sl (ls.map sv), .v (.int .i64 ((ls.map sv).length : Int)), .v (.int .i64 (q : Int))])
    (fun q => [g.a, g.b, g.c, g.d, .arr (q + 1) 3 1 ((stAt s (ls.take q)).map iv)]) (fun q => ls.length - q) 0 (Nat.zero_le _) rfl rfl (fun q hq => ?_)
  repeat (first | refine js rfl ?_ | (refine jdraw ?_ ?_; · kernel_rfl) | refine jbu rfl rfl rfl rfl ?_)
  refine jc rfl rfl rfl (fun h => ?_) (fun h => ?_)
  · have h := of_decide_eq_true h
    rw [List.length_map] at h
    have hq2 : q < ls.length := by omega
    have hidx : IntKind.i64.wrap ((q : Int) + 1) = ((q + 1 : Nat) : Int) := idx_next hq2 (by omega)
    have htk := stAt_take s ls hq2
    have hw := hw (at' ls (q : Int))
    have hln : (stAt s (ls.take q)).length ≤ 1000 := by unfold stAt; rw [List.length_map, List.length_take]; omega
    by_cases e : q = k
    · subst e
      have hd : ((whereP s (at' ls (q : Int))).2 != 0) = true := by rw [bne_iff_ne]; exact hbad
      repeat (first | refine js rfl ?_ | (refine jdraw ?_ ?_; · kernel_rfl) | refine jbu rfl rfl rfl rfl ?_ | refine jo rfl rfl (index_at rfl rfl rfl rfl rfl rfl rfl rfl (Int.natCast_nonneg q) h) rfl rfl ?_)
      refine jb [0,1,2,3] hw rfl rfl rfl ⟨rfl, rfl, rfl, rfl, rfl, rfl⟩ rfl rfl rfl rfl ?_
      repeat (first | refine js rfl ?_ | (refine jdraw ?_ ?_; · kernel_rfl) | refine jbu rfl rfl rfl rfl ?_)
      rw [hd]
      repeat (first | refine js rfl ?_ | (refine jdraw ?_ ?_; · kernel_rfl) | refine jbu rfl rfl rfl rfl ?_)
      exact jret [] true rfl rfl rfl ⟨rfl, rfl⟩
    · have h0 := hok q (by omega)
      generalize whereP s (at' ls (q : Int)) = r at *
      obtain ⟨r1, r2⟩ := r
      simp only at h0 htk
      subst h0
      repeat (first | refine js rfl ?_ | (refine jdraw ?_ ?_; · kernel_rfl) | refine jbu rfl rfl rfl rfl ?_ | refine jo rfl rfl (index_at rfl rfl rfl rfl rfl rfl rfl rfl (Int.natCast_nonneg q) h) rfl rfl ?_)
      refine jb [0,1,2,3] hw rfl rfl rfl ⟨rfl, rfl, rfl, rfl, rfl, rfl⟩ rfl rfl rfl rfl ?_
      repeat (first | refine js rfl ?_ | (refine jdraw ?_ ?_; · kernel_rfl) | refine jbu rfl rfl rfl rfl ?_)
      refine jo rfl rfl (append_enc (enc := iv) (l := stAt s (ls.take q)) r1 rfl rfl rfl rfl rfl rfl rfl rfl rfl rfl (fun x => ⟨rfl, rfl⟩) rfl (by omega) rfl rfl) rfl rfl ?_
      rw [← htk]
      repeat (first | refine js rfl ?_ | (refine jdraw ?_ ?_; · kernel_rfl) | refine jbu rfl rfl rfl rfl ?_)
      refine jnextI (q + 1) (by omega) ?_ rfl (by omega)
      show some _ = some _
      rw [hidx]
  · exfalso
    have h := of_decide_eq_false h
    rw [List.length_map] at h
    omega
theorem as_nil (ps : List Value) : ACalls Tryz.prog 43 [.v .nilIface, .ifc 93 (.ptr 0 0)] [.box 91 [sv []]] (one (bv false) [.box 91 [sv []]]) := by
  refine jcalls Tryz.func43 rfl (by kernel_rfl) Tryz.ntmps43 rfl rfl (fun w0 β0 ext hβ => ?_)
  repeat (first | refine js rfl ?_ | (refine jdraw ?_ ?_; · kernel_rfl) | refine jbu rfl rfl rfl rfl ?_ | refine jo rfl rfl (eq_nilI rfl rfl rfl) rfl rfl ?_)
  exact jr rfl rfl rfl rfl
theorem snew_ok (g : Gl) (s : Bs) (ls : List Bs) (m : Mem) (d : Int) (hs : s.length ≤ 100000) (hl : ls.length ≤ 1000) (hm : m.words.length ≤ 1000000 ∧ m.tags.length ≤ 1000000) (hp : (parseP s).2.2 = 0) (hall : ∀ l ∈ ls, (whereP s l).2 = 0) (hc : (parseP s).1.length ≤ 1000000) :
    ACalls Tryz.prog 10 [sv s, .sl (ls.map sv), encMem m, iv d] (gls g) (one (.tup [encWd (newW (parseP s).1 (stAt s ls) m d).1, iv (newW (parseP s).1 (stAt s ls) m d).2]) (gls g)) := by
  have h1 := parse_ok g s (by omega)
  have h2 := starts_ok g s ls (by omega) hl hall
  have h3 := as_nil []
  have h4 := wnew_ok (parseP s).1 (stAt s ls) m d hc (by unfold stAt; simp; omega) hm
  rw [hp] at h1
  generalize newW (parseP s).1 (stAt s ls) m d = r at *
  unfold gls encIs at *
  unfold encWd wCells encMem mCells ivs at *
  refine jcalls Tryz.func10 rfl (by kernel_rfl) Tryz.ntmps10 rfl rfl (fun w0 β0 ext hβ => ?_)
  repeat (first | refine js rfl ?_ | (refine jdraw ?_ ?_; · kernel_rfl) | refine jbu rfl rfl rfl rfl ?_)
  refine jb [0,1,2,3] h1 rfl rfl rfl ⟨rfl, rfl, rfl, rfl, rfl, rfl⟩ rfl rfl rfl rfl ?_
  repeat (first | refine js rfl ?_ | (refine jdraw ?_ ?_; · kernel_rfl) | refine jbu rfl rfl rfl rfl ?_)
  refine jb [0,1,2,3] h2 rfl rfl rfl ⟨rfl, rfl, rfl, rfl, rfl, rfl⟩ rfl rfl rfl rfl ?_
  repeat (first | refine js rfl ?_ | (refine jdraw ?_ ?_; · kernel_rfl) | refine jbu rfl rfl rfl rfl ?_)
  refine jb [6] h3 rfl rfl rfl ⟨rfl, rfl, rfl, rfl, rfl, rfl⟩ rfl rfl rfl rfl ?_
  repeat (first | refine js rfl ?_ | (refine jdraw ?_ ?_; · kernel_rfl) | refine jbu rfl rfl rfl rfl ?_ | refine jv h4 rfl rfl rfl rfl rfl ?_)
  exact jr rfl rfl rfl rfl
theorem snew_bad (g : Gl) (s : Bs) (ls : List Bs) (m : Mem) (d : Int) (hs : s.length ≤ 100000) (hp : (parseP s).2.2 ≠ 0) :
    ACalls Tryz.prog 10 [sv s, .sl (ls.map sv), encMem m, iv d] (gls g) (one (.tup [encWd wd0, iv (parseP s).2.2]) (gls g)) := by
  have h1 := parse_ok g s (by omega)
  have hd : ((parseP s).2.2 != 0) = true := by rw [bne_iff_ne]; exact hp
  unfold gls encIs at *
  unfold encWd wCells encMem mCells ivs at *
  refine jcalls Tryz.func10 rfl (by kernel_rfl) Tryz.ntmps10 rfl rfl (fun w0 β0 ext hβ => ?_)
  repeat (first | refine js rfl ?_ | (refine jdraw ?_ ?_; · kernel_rfl) | refine jbu rfl rfl rfl rfl ?_)
  refine jb [0,1,2,3] h1 rfl rfl rfl ⟨rfl, rfl, rfl, rfl, rfl, rfl⟩ rfl rfl rfl rfl ?_
  repeat (first | refine js rfl ?_ | (refine jdraw ?_ ?_; · kernel_rfl) | refine jbu rfl rfl rfl rfl ?_)
  rw [hd]
  repeat (first | refine js rfl ?_ | (refine jdraw ?_ ?_; · kernel_rfl) | refine jbu rfl rfl rfl rfl ?_)
  exact jr rfl rfl rfl rfl
end Go.AL
end
section
set_option maxRecDepth 100000
namespace Go.AL.AsW
open Go Go.Proofs Go.RowKit Go.Extern.Stop Go.Stop Go.Extern
theorem valueOfP (t : Addr) (w : World) : (ReflectliteValue.unpack (.iface 93 (.pointer (some t)))).run Tryz.prog w
    = .ok (.agg #[.pointer (some ⟨9, 93, none⟩), .pointer (some ⟨w.heap.size, 0, none⟩), .int .u64 150]) (w.alloc (.cells #[.pointer (some t)] 93)) := by kernel_rfl
theorem typeP (a : Addr) (w : World) : (ReflectliteValue.methodAny (ReflectliteValue.valueError "reflectlite.Value.Type" 0) (fun t _ _ _ => ReflectliteType.toType t) #[.agg #[.pointer (some ⟨9, 93, none⟩), .pointer (some a), .int .u64 150]]).run Tryz.prog w
    = .ok (.iface 206 (.agg #[.pointer (some ⟨9, 93, none⟩)])) w := by kernel_rfl
theorem kindP (w : World) : ((ReflectliteType.abiMethod fun t => (fun a : Nat => Value.int IntKind.u8 (a : Int)) <$> Rtype.kind t) #[.pointer (some ⟨9, 93, none⟩)]).run Tryz.prog w = .ok (.int .u8 22) w := by kernel_rfl
theorem kindT (w : World) : ((ReflectliteType.abiMethod fun t => (fun a : Nat => Value.int IntKind.u8 (a : Int)) <$> Rtype.kind t) #[.pointer (some ⟨9, 91, none⟩)]).run Tryz.prog w = .ok (.int .u8 25) w := by kernel_rfl
theorem rlm (z : Sem Value) (f : TypeId → Addr → Nat → Nat → Sem Value) (v : Value) :
    ReflectliteValue.method z f #[v] = (do match ← ReflectliteValue.parts v with | none => z | some (t, a, fl) => f t a fl (fl % 32)) := rfl
theorem partsP (a : Addr) (w : World) : (ReflectliteValue.parts (.agg #[.pointer (some ⟨9, 93, none⟩), .pointer (some a), .int .u64 150])).run Tryz.prog w = .ok (some (93, a, 150)) w := by kernel_rfl
theorem isNilP (a p : Addr) (W : World) (ha : W.cell? a = some (.pointer (some p))) :
    (ReflectliteValue.method (ReflectliteValue.valueError "reflectlite.Value.IsNil" 0) ReflectliteValue.isNil #[.agg #[.pointer (some ⟨9, 93, none⟩), .pointer (some a), .int .u64 150]]).run Tryz.prog W = .ok (.bool false) W := by
  rw [rlm]
  simp only [Sem.run_bind, partsP, Result.andThen]
  simp [ReflectliteValue.isNil, loadVar, isAgg, underlying, Tryz.underlying93, ha, Result.andThen]
theorem methodKind (h : Value) (w : World) : (Go.method 474 206 (.agg #[h]) "Kind").run Tryz.prog w = .ok (298, h) w := by kernel_rfl
theorem methodElem (h : Value) (w : World) : (Go.method 474 206 (.agg #[h]) "Elem").run Tryz.prog w = .ok (309, .agg #[h]) w := by kernel_rfl
theorem methodImplements (h : Value) (w : World) : (Go.method 474 206 (.agg #[h]) "Implements").run Tryz.prog w = .ok (310, .agg #[h]) w := by kernel_rfl
theorem methodAssignableTo (h : Value) (w : World) : (Go.method 474 206 (.agg #[h]) "AssignableTo").run Tryz.prog w = .ok (307, .agg #[h]) w := by kernel_rfl
theorem elemP (w : World) : (ReflectliteType.method ReflectliteType.elem #[.agg #[.pointer (some ⟨9, 93, none⟩)]]).run Tryz.prog w = .ok (.iface 206 (.agg #[.pointer (some ⟨9, 91, none⟩)])) w := by kernel_rfl
theorem implementsT (w : World) : (ReflectliteType.relation "Implements" ReflectliteType.implements_ #[.agg #[.pointer (some ⟨9, 91, none⟩)], .iface 206 (.agg #[.pointer (some ⟨9, 87, none⟩)])]).run Tryz.prog w = .ok (.bool true) w := by kernel_rfl
theorem typeOfT (v : Value) (w : World) : (ReflectliteType.typeOf #[.iface 91 v]).run Tryz.prog w = .ok (.iface 206 (.agg #[.pointer (some ⟨9, 91, none⟩)])) w := by kernel_rfl
theorem assignableT (w : World) : (ReflectliteType.relation "AssignableTo" ReflectliteType.assignableTo #[.agg #[.pointer (some ⟨9, 91, none⟩)], .iface 206 (.agg #[.pointer (some ⟨9, 91, none⟩)])]).run Tryz.prog w = .ok (.bool true) w := by kernel_rfl
theorem valueOfT (s : ByteArray) (w : World) : (ReflectliteValue.unpack (.iface 91 (.agg #[.string s]))).run Tryz.prog w
    = .ok (.agg #[.pointer (some ⟨9, 91, none⟩), .pointer (some ⟨w.heap.size, 0, none⟩), .int .u64 153]) (w.alloc (.cells #[.string s] 91)) := by kernel_rfl
theorem elemOfP (w : World) : (Rtype.elem? 93).run Tryz.prog w = .ok (some 91) w := by kernel_rfl
theorem mkT (p : Addr) (w : World) : (ReflectliteValue.mk 91 p ReflectliteValue.flagAddr).run Tryz.prog w = .ok (.agg #[.pointer (some ⟨9, 91, none⟩), .pointer (some p), .int .u64 409]) w := by kernel_rfl
theorem elemVP (a p : Addr) (W : World) (ha : W.cell? a = some (.pointer (some p))) :
    (ReflectliteValue.method (ReflectliteValue.valueError "reflectlite.Value.Elem" 0) ReflectliteValue.elem #[.agg #[.pointer (some ⟨9, 93, none⟩), .pointer (some a), .int .u64 150]]).run Tryz.prog W
      = .ok (.agg #[.pointer (some ⟨9, 91, none⟩), .pointer (some p), .int .u64 409]) W := by
  rw [rlm]
  simp only [Sem.run_bind, partsP, Result.andThen]
  simp [ReflectliteValue.elem, loadVar, isAgg, underlying, Tryz.underlying93, ha, Result.andThen, elemOfP, mkT]
theorem rls (v x : Value) : ReflectliteValue.set #[v, x] = (do
    let (some (dst, a, fl), some (src, b, _)) := (← ReflectliteValue.parts v, ← ReflectliteValue.parts x)
      | unsupported (.noEntry "extern/(internal/reflectlite.Value).Set.zeroValue")
    if fl / ReflectliteValue.flagAddr % 2 == 0 then unsupported (.noEntry "extern/(internal/reflectlite.Value).Set.unaddressable")
    let val ← loadVar src b
    if ← Rtype.directlyAssignable dst src then storeVar dst a val
    else if ← Rtype.implements dst src then
      if (← Rtype.kind src) == 20 then
        match val with
        | .nilIface => unsupported (.noEntry "extern/reflectlite: a nil value of one interface type handed on as a value of another")
        | _ => storeVar dst a val
      else storeVar dst a (.iface src val)
    else panicString ("reflectlite.Set: value of type " ++ (← Rtype.spelt src) ++ " is not assignable to type " ++ (← Rtype.spelt dst))
    pure (.tuple #[])) := rfl
theorem partsTa (a : Addr) (w : World) : (ReflectliteValue.parts (.agg #[.pointer (some ⟨9, 91, none⟩), .pointer (some a), .int .u64 409])).run Tryz.prog w = .ok (some (91, a, 409)) w := by kernel_rfl
theorem partsT (a : Addr) (w : World) : (ReflectliteValue.parts (.agg #[.pointer (some ⟨9, 91, none⟩), .pointer (some a), .int .u64 153])).run Tryz.prog w = .ok (some (91, a, 153)) w := by kernel_rfl
theorem directT (w : World) : (Rtype.directlyAssignable 91 91).run Tryz.prog w = .ok true w := by kernel_rfl
theorem sizeT (w : World) : (sizeOf 91).run Tryz.prog w = .ok 1 w := by kernel_rfl
theorem loadT (b : Addr) (s : ByteArray) (W : World) (hb : W.cell? b = some (.string s)) : (loadVar 91 b).run Tryz.prog W = .ok (.agg #[.string s]) W := by
  simp [loadVar, isAgg, underlying, Tryz.underlying91, Result.andThen, sizeT, loadCells, loadCellsFrom, Addr.add, hb]
theorem storeT (ta : Addr) (s : ByteArray) (old : Value) (W : World) (ht : W.cell? ta = some old) (hf : W.frozen? ta = false) : (storeVar 91 ta (.agg #[.string s])).run Tryz.prog W = .ok () (W.setCell ta (.string s)) := by
  unfold storeVar
  simp [Sem.run_bind, sizeT, Result.andThen, Value.cells, storeCells, Addr.add]
  rw [run_store Tryz.prog W ta _ _ (by rfl)]
  simp [ht, hf]
theorem setT (ta b : Addr) (s : ByteArray) (old : Value) (W : World) (hb : W.cell? b = some (.string s)) (ht : W.cell? ta = some old) (hf : W.frozen? ta = false) :
    (ReflectliteValue.set #[.agg #[.pointer (some ⟨9, 91, none⟩), .pointer (some ta), .int .u64 409], .agg #[.pointer (some ⟨9, 91, none⟩), .pointer (some b), .int .u64 153]]).run Tryz.prog W
      = .ok (.tuple #[]) (W.setCell ta (.string s)) := by
  rw [rls]
  simp only [Sem.run_bind, partsTa, partsT, Result.andThen]
  simp [ReflectliteValue.flagAddr, loadT b s W hb, storeT ta s old W ht hf, Result.andThen, directT]
def w4 (t : Addr) (s : ByteArray) (w : World) : World := (((w.alloc (.cells #[.pointer (some t)] 93)).alloc (.cells #[.pointer (some ⟨9, 93, none⟩), .pointer (some ⟨w.heap.size, 0, none⟩), .int .u64 150] 152)).alloc (.cells #[.pointer (some ⟨9, 93, none⟩), .pointer (some ⟨w.heap.size, 0, none⟩), .int .u64 150] 152)).alloc (.cells #[.string s] 91)
set_option maxHeartbeats 4000000 in
theorem as_hit (s : ByteArray) (t : Addr) (old : Value) (w : World) (hg : w.cell? ⟨0, 0, none⟩ = some (.iface 206 (.agg #[.pointer (some ⟨9, 87, none⟩)]))) (ht0 : w.cell? t = some old) (hf0 : w.frozen? t = false) :
    Calls Tryz.prog 43 #[.iface 91 (.agg #[.string s]), .iface 93 (.pointer (some t))] w fun ev w' => ev = .returned (.bool true) ∧ w' = (w4 t s w).setCell t (.string s) := by
  unfold w4
  have h6 := @run_callFunc_extern Tryz.prog 86 _ (fun args => ReflectliteValue.unpack (args.getD 0 (.tuple #[]))) Tryz.func86 (by kernel_rfl) (by kernel_rfl) (by kernel_rfl) (by kernel_rfl)
  have h7 := @run_callFunc_extern Tryz.prog 87 _ (ReflectliteValue.methodAny (ReflectliteValue.valueError "reflectlite.Value.Type" 0) (fun t _ _ _ => ReflectliteType.toType t)) Tryz.func87 (by kernel_rfl) (by kernel_rfl) (by kernel_rfl) (by kernel_rfl)
  have h8 := @run_callFunc_extern Tryz.prog 88 _ (ReflectliteValue.method (ReflectliteValue.valueError "reflectlite.Value.IsNil" 0) ReflectliteValue.isNil) Tryz.func88 (by kernel_rfl) (by kernel_rfl) (by kernel_rfl) (by kernel_rfl)
  have h27 := @run_callFunc_extern Tryz.prog 298 _ (ReflectliteType.abiMethod fun t => do pure (.int .u8 (← Rtype.kind t))) Tryz.func298 (by kernel_rfl) (by kernel_rfl) (by kernel_rfl) (by kernel_rfl)
  have h37 := @run_callFunc_extern Tryz.prog 309 _ (ReflectliteType.method ReflectliteType.elem) Tryz.func309 (by kernel_rfl) (by kernel_rfl) (by kernel_rfl) (by kernel_rfl)
  have h38 := @run_callFunc_extern Tryz.prog 310 _ (ReflectliteType.relation "Implements" ReflectliteType.implements_) Tryz.func310 (by kernel_rfl) (by kernel_rfl) (by kernel_rfl) (by kernel_rfl)
  have h10 := @run_callFunc_extern Tryz.prog 132 _ ReflectliteType.typeOf Tryz.func132 (by kernel_rfl) (by kernel_rfl) (by kernel_rfl) (by kernel_rfl)
  have h35 := @run_callFunc_extern Tryz.prog 307 _ (ReflectliteType.relation "AssignableTo" ReflectliteType.assignableTo) Tryz.func307 (by kernel_rfl) (by kernel_rfl) (by kernel_rfl) (by kernel_rfl)
  have h11 := @run_callFunc_extern Tryz.prog 133 _ (ReflectliteValue.method (ReflectliteValue.valueError "reflectlite.Value.Elem" 0) ReflectliteValue.elem) Tryz.func133 (by kernel_rfl) (by kernel_rfl) (by kernel_rfl) (by kernel_rfl)
  have h12 := @run_callFunc_extern Tryz.prog 134 _ ReflectliteValue.set Tryz.func134 (by kernel_rfl) (by kernel_rfl) (by kernel_rfl) (by kernel_rfl)
  have tO := typeOfT
  have mA := methodAssignableTo
  have a25 := assignableT
  have v25 := valueOfT
  have f6 := valueOfP
  have f7 := typeP
  have mK := methodKind
  have mE := methodElem
  have mI := methodImplements
  have k27 := kindP
  have k25 := kindT
  have e27 := elemP
  have i25 := implementsT
  have n8 := isNilP ⟨w.heap.size, 0, none⟩ t ((w.alloc (.cells #[.pointer (some t)] 93)).alloc (.cells #[.pointer (some ⟨9, 93, none⟩), .pointer (some ⟨w.heap.size, 0, none⟩), .int .u64 150] 152)) (by simp)
  have hlt : 0 < w.heap.size := by
    rcases Nat.lt_or_ge 0 w.heap.size with h | h0
    · exact h
    · simp [World.cell?, Array.getElem?_eq_none h0] at hg
  have hg2 : ((w.alloc (.cells #[.pointer (some t)] 93)).alloc (.cells #[.pointer (some ⟨9, 93, none⟩), .pointer (some ⟨w.heap.size, 0, none⟩), .int .u64 150] 152)).cell? ⟨0, 0, none⟩ = some (.iface 206 (.agg #[.pointer (some ⟨9, 87, none⟩)])) := by
    rw [World.cell?_alloc_lt _ _ ⟨0, 0, none⟩ (by simp <;> omega), World.cell?_alloc_lt _ _ ⟨0, 0, none⟩ hlt]; exact hg
  have htl : t.block < w.heap.size := by
    rcases Nat.lt_or_ge t.block w.heap.size with h | h
    · exact h
    · simp [World.cell?, Array.getElem?_eq_none h] at ht0
  have el := elemVP ⟨w.heap.size, 0, none⟩ t (((w.alloc (.cells #[.pointer (some t)] 93)).alloc (.cells #[.pointer (some ⟨9, 93, none⟩), .pointer (some ⟨w.heap.size, 0, none⟩), .int .u64 150] 152)).alloc (.cells #[.pointer (some ⟨9, 93, none⟩), .pointer (some ⟨w.heap.size, 0, none⟩), .int .u64 150] 152)) (by rw [World.cell?_alloc_lt _ _ ⟨w.heap.size, 0, none⟩ (by simp <;> omega)]; simp)
  have st := setT t ⟨w.heap.size + 1 + 1 + 1, 0, none⟩ s old ((((w.alloc (.cells #[.pointer (some t)] 93)).alloc (.cells #[.pointer (some ⟨9, 93, none⟩), .pointer (some ⟨w.heap.size, 0, none⟩), .int .u64 150] 152)).alloc (.cells #[.pointer (some ⟨9, 93, none⟩), .pointer (some ⟨w.heap.size, 0, none⟩), .int .u64 150] 152)).alloc (.cells #[.string s] 91))
    (by rw [World.cell?_alloc_at _ _ _ _ (by simp)]; rfl)
    (by rw [World.cell?_alloc_lt _ _ t (by simp <;> omega), World.cell?_alloc_lt _ _ t (by simp <;> omega), World.cell?_alloc_lt _ _ t (by simp <;> omega), World.cell?_alloc_lt _ _ t htl]; exact ht0)
    (by rw [World.frozen?_alloc_old _ _ t (by simp <;> omega), World.frozen?_alloc_old _ _ t (by simp <;> omega), World.frozen?_alloc_old _ _ t (by simp <;> omega), World.frozen?_alloc_old _ _ t (Nat.ne_of_lt htl)]; exact hf0)
  go_enter Tryz.func43, Tryz.ntmps43
  go_wp2
  refine wp_loop_rounds 1 ?_
  rw [rounds_succ]
  go_wp2
  go_ret
  exact ⟨rfl, rfl⟩
end Go.AL.AsW
end
section
set_option maxRecDepth 100000
namespace Go.AL
open Go Go.Proofs
attribute [local irreducible] J
noncomputable def eVal : Value := .iface 206 (.agg #[typeHandle Tryz.prog 87])
noncomputable def eF (t : TypeId) (f : Nat × Nat) : AObj := .fix 0 (.cells #[eVal] t f)
theorem as_hitA (t0 : TypeId) (f0 : Nat × Nat) (s : Bs) : ACalls Tryz.prog 43 [.ifc 91 (.agg [sv s]), .ifc 93 (.ptr 0 0)] [.box 91 [sv []], eF t0 f0] (one (bv true) [.box 91 [sv s], eF t0 f0]) := by
  refine ⟨⟨_, Tryz.func43, by kernel_rfl, by kernel_rfl⟩, fun ext w β us hI hx hr => ?_⟩
  obtain ⟨x, us1, rfl, ⟨y, rfl, a, rfl, x1, us3, ha, hx1, h3⟩, z, us2, rfl, ⟨y2, rfl, hp⟩, h2⟩ := hr
  have h2 : us2 = [] := h2
  have h3 : us3 = [] := h3
  have hx1 : x1 = S s := hx1
  subst h2 h3 hx1
  obtain rfl : a = #[S s] := by apply Array.ext'; simpa using ha
  obtain ⟨e, b, vs, he, hb, rfl, hc, hrl, hone, hg0⟩ := box_of hI (j := 0) rfl hp
  obtain ⟨x2, us4, hvs, hx2, h4⟩ := hrl
  have h4 : us4 = [] := h4
  have hx2 : x2 = S [] := hx2
  subst h4 hx2
  obtain rfl : vs = #[S []] := by apply Array.ext'; simpa using hvs
  obtain ⟨e1, he1⟩ : ∃ e1, β[1]? = some e1 := ⟨_, List.getElem?_eq_getElem (by have := hI.len; simp only [List.length_cons, List.length_nil] at this; omega)⟩
  obtain ⟨_, _, hfx, _⟩ := hI.obj 1 (eF t0 f0) e1 rfl he1
  have hfx : w.heap[0]? = some (.cells #[eVal] t0 f0) := hfx
  have hlt : b < w.heap.size := (Array.getElem?_eq_some_iff.1 hc).1
  refine (AsW.as_hit ⟨s.toArray⟩ ⟨b, 0, none⟩ (S []) w (by rw [World.cell?, hfx]; rfl) (by simp [World.cell?, hc]) (by simp [World.frozen?, hc])).mono fun en w' ⟨h1, h2⟩ => ?_
  subst h1 h2
  have hI1 : Inv ext (AsW.w4 ⟨b, 0, none⟩ ⟨s.toArray⟩ w) _ β := (((hI.push _).push _).push _).push _
  have hS1 : Step w β (AsW.w4 ⟨b, 0, none⟩ ⟨s.toArray⟩ w) β := (((Step.push w β _).trans (Step.push _ β _)).trans (Step.push _ β _)).trans (Step.push _ β _)
  have hc1 : (AsW.w4 ⟨b, 0, none⟩ ⟨s.toArray⟩ w).heap[b]? = some (.cells #[S []] 91 (0, 0)) := by
    refine Eq.trans ?_ hc
    have p1 : ∀ (w : World) (o : Obj), b < w.heap.size → (World.push w o).heap[b]? = w.heap[b]? ∧ b < (World.push w o).heap.size := fun w o h => ⟨push_get h, by rw [push_size]; omega⟩
    obtain ⟨q1, r1⟩ := p1 w (.cells #[.pointer (some ⟨b, 0, none⟩)] 93) hlt
    obtain ⟨q2, r2⟩ := p1 _ _ r1
    obtain ⟨q3, r3⟩ := p1 _ _ r2
    obtain ⟨q4, r4⟩ := p1 _ _ r3
    exact ((q4.trans q3).trans q2).trans q1
  generalize AsW.w4 ⟨b, 0, none⟩ ⟨s.toArray⟩ w = w1 at *
  have k1 : (w1.setCell ⟨b, 0, none⟩ (S s)).heap[b]? = some (.cells #[S s] 91 (0, 0)) := by
    simp [World.setCell, Array.getElem?_modify, hc1]
  have k2 : ∀ c, c ≠ b → (w1.setCell ⟨b, 0, none⟩ (S s)).heap[c]? = w1.heap[c]? := fun c hne => RowKit.Below.heap_setCell _ _ _ _ hne
  have k3 : (w1.setCell ⟨b, 0, none⟩ (S s)).heap.size = w1.heap.size := by simp [World.setCell]
  have hst : Step w1 β (w1.setCell ⟨b, 0, none⟩ (S s)) β := Step.write ⟨0, e, he, hb⟩ k3 k2 rfl rfl rfl
  have hI' := hI1.write (a := .box 91 [sv s]) he hb k3 k2 rfl rfl rfl ⟨hg0, rfl, b, _, hb, k1, _, _, rfl, rfl, rfl⟩
  exact ⟨bv true, _, β, ⟨rfl, rfl⟩, rfl, hI', hS1.trans hst⟩
theorem snew_miss (g : Gl) (t0 : TypeId) (f0 : Nat × Nat) (s : Bs) (ls : List Bs) (m : Mem) (d : Int) (k : Nat) (hs : s.length ≤ 100000) (hl : ls.length ≤ 1000) (hp : (parseP s).2.2 = 0) (hk : k < ls.length)
    (hok : ∀ p, p < k → (whereP s (at' ls (p : Int))).2 = 0) (hbad : (whereP s (at' ls (k : Int))).2 ≠ 0) :
    ACalls Tryz.prog 10 [sv s, .sl (ls.map sv), encMem m, iv d] (gls g ++ [eF t0 f0]) (one (.tup [encWd wd0, iv 11]) (gls g ++ [eF t0 f0])) := by
  have h1 := parse_ok g s (by omega)
  have h2 := starts_bad g s ls k (by omega) hl hk hok hbad
  have h3 := as_hitA t0 f0 (at' ls (k : Int))
  rw [hp] at h1
  unfold gls encIs eF at *
  unfold encWd wCells encMem mCells ivs at *
  refine jcalls Tryz.func10 rfl (by kernel_rfl) Tryz.ntmps10 rfl rfl (fun w0 β0 ext hβ => ?_)
  repeat (first | refine js rfl ?_ | (refine jdraw ?_ ?_; · kernel_rfl) | refine jbu rfl rfl rfl rfl ?_)
  refine jb [0,1,2,3] h1 rfl rfl rfl ⟨rfl, rfl, rfl, rfl, rfl, rfl⟩ rfl rfl rfl rfl ?_
  repeat (first | refine js rfl ?_ | (refine jdraw ?_ ?_; · kernel_rfl) | refine jbu rfl rfl rfl rfl ?_)
  refine jb [0,1,2,3] h2 rfl rfl rfl ⟨rfl, rfl, rfl, rfl, rfl, rfl⟩ rfl rfl rfl rfl ?_
  repeat (first | refine js rfl ?_ | (refine jdraw ?_ ?_; · kernel_rfl) | refine jbu rfl rfl rfl rfl ?_)
  refine jb [7,4] h3 rfl rfl rfl ⟨rfl, rfl, rfl, rfl, rfl, rfl⟩ rfl rfl rfl rfl ?_
  repeat (first | refine js rfl ?_ | (refine jdraw ?_ ?_; · kernel_rfl) | refine jbu rfl rfl rfl rfl ?_)
  exact jr rfl rfl rfl rfl
end Go.AL
end
section
set_option maxRecDepth 100000
namespace Go.AL
open Go Go.Proofs
attribute [local irreducible] J
end Go.AL
end
section
set_option maxRecDepth 100000
namespace Go.AL
open Go Go.Proofs
attribute [local irreducible] J
end Go.AL
end
section
set_option maxRecDepth 100000
namespace Go.AL
open Go Go.Proofs
attribute [local irreducible] J
end Go.AL
end
section
set_option maxRecDepth 100000
namespace Go.AL
open Go Go.Proofs
attribute [local irreducible] J
end Go.AL
end
section
set_option maxRecDepth 100000
namespace Go.AL
open Go Go.Proofs
attribute [local irreducible] J
end Go.AL
end
section
set_option maxRecDepth 100000
namespace Go.AL
open Go Go.Proofs
attribute [local irreducible] J
end Go.AL
end
section
set_option maxRecDepth 100000
namespace Go.AL
open Go Go.Proofs
attribute [local irreducible] J
theorem encThr_agg (t : Thr) : encThr t = .agg [iv t.pc, iv (g0 t.regs 0), iv (g0 t.regs 1), iv (g0 t.regs 2), iv (g0 t.regs 3), iv (g0 t.regs 4), iv (g0 t.regs 5), iv (g0 t.regs 6), iv (g0 t.regs 7), .sl (t.frames.map encFrm), iv t.state, iv t.fault, .slz (t.left.map iv)] := rfl
end Go.AL
end
section
set_option maxRecDepth 100000
namespace Go.AL
open Go Go.Proofs
attribute [local irreducible] J
structure RfR (w : Wd) (k : Nat) : Prop where
  tso : TsR w.tso
  kb : k < w.tso.bufs.length
  kt : k < w.thr.length
  l8 : w.thr.length ≤ 8
  pc : 0 ≤ (thrAt w k).pc ∧ (thrAt w k).pc < 1000
end Go.AL
end
section
set_option maxRecDepth 100000
namespace Go.AL
open Go Go.Proofs
attribute [local irreducible] J
end Go.AL
end
section
set_option maxRecDepth 100000
namespace Go.AL
open Go Go.Proofs
attribute [local irreducible] J
structure InsK (n : Nat) (i : Ins) : Prop where
  op : 0 ≤ i.op ∧ i.op ≤ 26
  ab : i.op = 16 ∨ i.op = 17 ∨ i.op = 19 ∨ i.op = 20 ∨ i.op = 21 ∨ i.op = 23 ∨ i.op = 24 ∨ i.op = 25 → rgs i.a ∧ rgs i.b
  c : i.op = 19 → rgs i.c
  lo : inn i.op 1 15 = true → loMay i = true
  call : i.op = 13 → 0 ≤ i.a ∧ i.a ≤ n
end Go.AL
end
section
set_option maxRecDepth 100000
namespace Go.AL
open Go Go.Proofs
attribute [local irreducible] J
end Go.AL
end
section
set_option maxRecDepth 100000
namespace Go.AL
open Go Go.Proofs
attribute [local irreducible] J
end Go.AL
end
section
set_option maxRecDepth 100000
namespace Go.AL
open Go Go.Proofs
attribute [local irreducible] J
end Go.AL
end
section
set_option maxRecDepth 100000
namespace Go.AL
open Go Go.Proofs
attribute [local irreducible] J
end Go.AL
end
section
set_option maxRecDepth 100000
namespace Go.AL
open Go Go.Proofs
attribute [local irreducible] J
theorem rsame_ints (l : List (Int)) (hl : l.length ≤ 1000000) : ACalls Tryz.prog 64 [.sl (l.map iv), .sl (l.map iv)] [] (one (bv true) []) := by
  refine jcalls Tryz.func64 rfl (by kernel_rfl) Tryz.ntmps64 rfl rfl (fun w0 β0 ext hβ => ?_)
  repeat (first | refine js rfl ?_ | (refine jdraw ?_ ?_; · kernel_rfl) | refine jbu rfl rfl rfl rfl ?_)
  refine jc rfl rfl rfl (fun h => absurd h (by simp)) (fun h => ?_)
  repeat (first | refine js rfl ?_ | (refine jdraw ?_ ?_; · kernel_rfl) | refine jbu rfl rfl rfl rfl ?_)
  refine jloopI (fun i : Nat => i ≤ l.length) [0, 1, 12, 13] (fun i => [.sl (l.map iv), .sl (l.map iv), .v (.int .i64 ((l.map iv).length : Int)), .v (.int .i64 (i : Int))]) (fun _ => []) (fun i => l.length - i) 0 (Nat.zero_le _) rfl rfl (fun i hi => ?_)
  repeat (first | refine js rfl ?_ | (refine jdraw ?_ ?_; · kernel_rfl) | refine jbu rfl rfl rfl rfl ?_)
  refine jc rfl rfl rfl (fun h => ?_) (fun h => ?_)
  · have h := of_decide_eq_true h
    rw [List.length_map] at h
    have hi1 : i < l.length := by omega
    have w1 := idx_next hi1 (by omega)
    repeat (first | refine js rfl ?_ | (refine jdraw ?_ ?_; · kernel_rfl) | refine jbu rfl rfl rfl rfl ?_ | refine jo rfl rfl (index_at rfl rfl rfl rfl rfl rfl rfl rfl (Int.natCast_nonneg i) h) rfl rfl ?_)
    refine jc rfl rfl rfl (fun h => absurd h (by simp)) (fun h => ?_)
    repeat (first | refine js rfl ?_ | (refine jdraw ?_ ?_; · kernel_rfl) | refine jbu rfl rfl rfl rfl ?_)
    refine jnextI (i + 1) hi1 ?_ rfl (by omega)
    show some _ = some _
    rw [w1]
  · repeat (first | refine js rfl ?_ | (refine jdraw ?_ ?_; · kernel_rfl) | refine jbu rfl rfl rfl rfl ?_)
    exact jr rfl rfl rfl rfl
theorem rsame_puts (l : List (Wput)) (hl : l.length ≤ 1000000) : ACalls Tryz.prog 96 [.sl (l.map encPut), .sl (l.map encPut)] [] (one (bv true) []) := by
  refine jcalls Tryz.func96 rfl (by kernel_rfl) Tryz.ntmps96 rfl rfl (fun w0 β0 ext hβ => ?_)
  repeat (first | refine js rfl ?_ | (refine jdraw ?_ ?_; · kernel_rfl) | refine jbu rfl rfl rfl rfl ?_)
  refine jc rfl rfl rfl (fun h => absurd h (by simp)) (fun h => ?_)
  repeat (first | refine js rfl ?_ | (refine jdraw ?_ ?_; · kernel_rfl) | refine jbu rfl rfl rfl rfl ?_)
  refine jloopI (fun i : Nat => i ≤ l.length) [0, 1, 12, 13] (fun i => [.sl (l.map encPut), .sl (l.map encPut), .v (.int .i64 ((l.map encPut).length : Int)), .v (.int .i64 (i : Int))]) (fun _ => []) (fun i => l.length - i) 0 (Nat.zero_le _) rfl rfl (fun i hi => ?_)
  repeat (first | refine js rfl ?_ | (refine jdraw ?_ ?_; · kernel_rfl) | refine jbu rfl rfl rfl rfl ?_)
  refine jc rfl rfl rfl (fun h => ?_) (fun h => ?_)
  · have h := of_decide_eq_true h
    rw [List.length_map] at h
    have hi1 : i < l.length := by omega
    have w1 := idx_next hi1 (by omega)
    have hx : encPut (at' l (i : Int)) = .agg (intsA [(at' l (i : Int)).loc, (at' l (i : Int)).val]) := rfl
    repeat (first | refine js rfl ?_ | (refine jdraw ?_ ?_; · kernel_rfl) | refine jbu rfl rfl rfl rfl ?_ | refine jo rfl rfl (index_at rfl rfl rfl rfl rfl rfl rfl rfl (Int.natCast_nonneg i) h) rfl rfl ?_ | refine jo rfl rfl (eq_intsR (xs := [(at' l (i : Int)).loc, (at' l (i : Int)).val]) (ys := [(at' l (i : Int)).loc, (at' l (i : Int)).val]) (Or.inr rfl) rfl rfl rfl rfl rfl rfl (by kernel_rfl) (by kernel_rfl)) rfl rfl ?_)
    refine jc rfl rfl rfl (fun h => absurd h (by simp)) (fun h => ?_)
    repeat (first | refine js rfl ?_ | (refine jdraw ?_ ?_; · kernel_rfl) | refine jbu rfl rfl rfl rfl ?_)
    refine jnextI (i + 1) hi1 ?_ rfl (by omega)
    show some _ = some _
    rw [w1]
  · repeat (first | refine js rfl ?_ | (refine jdraw ?_ ?_; · kernel_rfl) | refine jbu rfl rfl rfl rfl ?_)
    exact jr rfl rfl rfl rfl
theorem rsame_evts (l : List (Evt)) (hl : l.length ≤ 1000000) : ACalls Tryz.prog 53 [.sl (l.map encEvt), .sl (l.map encEvt)] [] (one (bv true) []) := by
  refine jcalls Tryz.func53 rfl (by kernel_rfl) Tryz.ntmps53 rfl rfl (fun w0 β0 ext hβ => ?_)
  repeat (first | refine js rfl ?_ | (refine jdraw ?_ ?_; · kernel_rfl) | refine jbu rfl rfl rfl rfl ?_)
  refine jc rfl rfl rfl (fun h => absurd h (by simp)) (fun h => ?_)
  repeat (first | refine js rfl ?_ | (refine jdraw ?_ ?_; · kernel_rfl) | refine jbu rfl rfl rfl rfl ?_)
  refine jloopI (fun i : Nat => i ≤ l.length) [0, 1, 12, 13] (fun i => [.sl (l.map encEvt), .sl (l.map encEvt), .v (.int .i64 ((l.map encEvt).length : Int)), .v (.int .i64 (i : Int))]) (fun _ => []) (fun i => l.length - i) 0 (Nat.zero_le _) rfl rfl (fun i hi => ?_)
  repeat (first | refine js rfl ?_ | (refine jdraw ?_ ?_; · kernel_rfl) | refine jbu rfl rfl rfl rfl ?_)
  refine jc rfl rfl rfl (fun h => ?_) (fun h => ?_)
  · have h := of_decide_eq_true h
    rw [List.length_map] at h
    have hi1 : i < l.length := by omega
    have w1 := idx_next hi1 (by omega)
    have hx : encEvt (at' l (i : Int)) = .agg (intsA [(at' l (i : Int)).kind, (at' l (i : Int)).who, (g0 (at' l (i : Int)).words 0), (g0 (at' l (i : Int)).words 1), (g0 (at' l (i : Int)).words 2), (g0 (at' l (i : Int)).words 3)]) := rfl
    repeat (first | refine js rfl ?_ | (refine jdraw ?_ ?_; · kernel_rfl) | refine jbu rfl rfl rfl rfl ?_ | refine jo rfl rfl (index_at rfl rfl rfl rfl rfl rfl rfl rfl (Int.natCast_nonneg i) h) rfl rfl ?_ | refine jo rfl rfl (eq_intsR (xs := [(at' l (i : Int)).kind, (at' l (i : Int)).who, (g0 (at' l (i : Int)).words 0), (g0 (at' l (i : Int)).words 1), (g0 (at' l (i : Int)).words 2), (g0 (at' l (i : Int)).words 3)]) (ys := [(at' l (i : Int)).kind, (at' l (i : Int)).who, (g0 (at' l (i : Int)).words 0), (g0 (at' l (i : Int)).words 1), (g0 (at' l (i : Int)).words 2), (g0 (at' l (i : Int)).words 3)]) (Or.inr rfl) rfl rfl rfl rfl rfl rfl (by kernel_rfl) (by kernel_rfl)) rfl rfl ?_)
    refine jc rfl rfl rfl (fun h => absurd h (by simp)) (fun h => ?_)
    repeat (first | refine js rfl ?_ | (refine jdraw ?_ ?_; · kernel_rfl) | refine jbu rfl rfl rfl rfl ?_)
    refine jnextI (i + 1) hi1 ?_ rfl (by omega)
    show some _ = some _
    rw [w1]
  · repeat (first | refine js rfl ?_ | (refine jdraw ?_ ?_; · kernel_rfl) | refine jbu rfl rfl rfl rfl ?_)
    exact jr rfl rfl rfl rfl
theorem rsame_mem (m : Mem) (h1 : m.words.length ≤ 1000000) (h2 : m.tags.length ≤ 1000000) : ACalls Tryz.prog 20 [encMem m, encMem m] [] (one (bv true) []) := by
  have h1 := rsame_ints m.words h1
  have h2 := rsame_ints m.tags h2
  unfold encMem mCells ivs at *
  refine jcalls Tryz.func20 rfl (by kernel_rfl) Tryz.ntmps20 rfl rfl (fun w0 β0 ext hβ => ?_)
  repeat (first | refine js rfl ?_ | (refine jdraw ?_ ?_; · kernel_rfl) | refine jbu rfl rfl rfl rfl ?_ | refine jv h1 rfl rfl rfl rfl rfl ?_ | refine jv h2 rfl rfl rfl rfl rfl ?_)
  exact jr rfl rfl rfl rfl
theorem rsame_tso (t : Tso) (h : TsSz t) : ACalls Tryz.prog 52 [encTso t, encTso t] [] (one (bv true) []) := by
  have h1 := rsame_mem t.mem h.words h.tags
  have h2 := fun b hb => rsame_puts b (h.puts b hb)
  have hbl := h.bufs
  unfold encMem mCells ivs at h1
  unfold encTso tCells ivs at *
  refine jcalls Tryz.func52 rfl (by kernel_rfl) Tryz.ntmps52 rfl rfl (fun w0 β0 ext hβ => ?_)
  repeat (first | refine js rfl ?_ | (refine jdraw ?_ ?_; · kernel_rfl) | refine jbu rfl rfl rfl rfl ?_ | refine jv h1 rfl rfl rfl rfl rfl ?_)
  rw [show (t.depth != t.depth) = false from by simp]
  repeat (first | refine js rfl ?_ | (refine jdraw ?_ ?_; · kernel_rfl) | refine jbu rfl rfl rfl rfl ?_)
  refine jc rfl rfl rfl (fun h => absurd h (by simp)) (fun h => ?_)
  repeat (first | refine js rfl ?_ | (refine jdraw ?_ ?_; · kernel_rfl) | refine jbu rfl rfl rfl rfl ?_)
  refine jloopI (fun i : Nat => i ≤ t.bufs.length) [2, 3, 30, 31] (fun i => [.ptr 0 0, .ptr 1 0, .v (.int .i64 ((t.bufs.map encBuf).length : Int)), .v (.int .i64 (i : Int))]) (fun _ => _) (fun i => t.bufs.length - i) 0 (Nat.zero_le _) rfl rfl (fun i hi => ?_)
  repeat (first | refine js rfl ?_ | (refine jdraw ?_ ?_; · kernel_rfl) | refine jbu rfl rfl rfl rfl ?_)
  refine jc rfl rfl rfl (fun h => ?_) (fun h => ?_)
  · have h := of_decide_eq_true h
    rw [List.length_map] at h
    have hi1 : i < t.bufs.length := by omega
    have w1 := idx_next hi1 (by omega)
    have h2 := h2 _ (at_mem hi1)
    repeat (first | refine js rfl ?_ | (refine jdraw ?_ ?_; · kernel_rfl) | refine jbu rfl rfl rfl rfl ?_ | refine jo rfl rfl (index_at rfl rfl rfl rfl rfl rfl rfl rfl (Int.natCast_nonneg i) h) rfl rfl ?_ | refine jv h2 rfl rfl rfl rfl rfl ?_)
    refine jnextI (i + 1) hi1 ?_ rfl (by omega)
    show some _ = some _
    rw [w1]
  · repeat (first | refine js rfl ?_ | (refine jdraw ?_ ?_; · kernel_rfl) | refine jbu rfl rfl rfl rfl ?_)
    exact jr rfl rfl rfl rfl
theorem rsame_thr (t : Thr) (h1 : t.frames.length ≤ 1000000) (h2 : t.left.length ≤ 1000000) : ACalls Tryz.prog 50 [encThr t, encThr t] [] (one (bv true) []) := by
  have hli := rsame_ints t.left h2
  rw [encThr_agg]
  refine jcalls Tryz.func50 rfl (by kernel_rfl) Tryz.ntmps50 rfl rfl (fun w0 β0 ext hβ => ?_)
  repeat (first | refine js rfl ?_ | (refine jdraw ?_ ?_; · kernel_rfl) | refine jbu rfl rfl rfl rfl ?_)
  rw [show (t.pc != t.pc) = false from by simp]
  repeat (first | refine js rfl ?_ | (refine jdraw ?_ ?_; · kernel_rfl) | refine jbu rfl rfl rfl rfl ?_ | refine jo rfl rfl (eq_intsR (xs := [g0 t.regs 0, g0 t.regs 1, g0 t.regs 2, g0 t.regs 3, g0 t.regs 4, g0 t.regs 5, g0 t.regs 6, g0 t.regs 7]) (ys := [g0 t.regs 0, g0 t.regs 1, g0 t.regs 2, g0 t.regs 3, g0 t.regs 4, g0 t.regs 5, g0 t.regs 6, g0 t.regs 7]) (Or.inr rfl) rfl rfl rfl rfl rfl rfl (by kernel_rfl) (by kernel_rfl)) rfl rfl ?_)
  rw [show (if (BinOp.neq = BinOp.eql) then decide ([g0 t.regs 0, g0 t.regs 1, g0 t.regs 2, g0 t.regs 3, g0 t.regs 4, g0 t.regs 5, g0 t.regs 6, g0 t.regs 7] = [g0 t.regs 0, g0 t.regs 1, g0 t.regs 2, g0 t.regs 3, g0 t.regs 4, g0 t.regs 5, g0 t.regs 6, g0 t.regs 7]) else !decide ([g0 t.regs 0, g0 t.regs 1, g0 t.regs 2, g0 t.regs 3, g0 t.regs 4, g0 t.regs 5, g0 t.regs 6, g0 t.regs 7] = [g0 t.regs 0, g0 t.regs 1, g0 t.regs 2, g0 t.regs 3, g0 t.regs 4, g0 t.regs 5, g0 t.regs 6, g0 t.regs 7])) = false from by simp]
  repeat (first | refine js rfl ?_ | (refine jdraw ?_ ?_; · kernel_rfl) | refine jbu rfl rfl rfl rfl ?_)
  rw [show (t.state != t.state) = false from by simp]
  repeat (first | refine js rfl ?_ | (refine jdraw ?_ ?_; · kernel_rfl) | refine jbu rfl rfl rfl rfl ?_)
  rw [show (t.fault != t.fault) = false from by simp]
  repeat (first | refine js rfl ?_ | (refine jdraw ?_ ?_; · kernel_rfl) | refine jbu rfl rfl rfl rfl ?_)
  refine jc rfl rfl rfl (fun h => absurd h (by simp)) (fun h => ?_)
  repeat (first | refine js rfl ?_ | (refine jdraw ?_ ?_; · kernel_rfl) | refine jbu rfl rfl rfl rfl ?_)
  refine jloopI (fun i : Nat => i ≤ t.frames.length) [2, 3, 43, 44] (fun i => [.ptr 0 0, .ptr 1 0, .v (.int .i64 ((t.frames.map encFrm).length : Int)), .v (.int .i64 (i : Int))]) (fun _ => _) (fun i => t.frames.length - i) 0 (Nat.zero_le _) rfl rfl (fun i hi => ?_)
  repeat (first | refine js rfl ?_ | (refine jdraw ?_ ?_; · kernel_rfl) | refine jbu rfl rfl rfl rfl ?_)
  refine jc rfl rfl rfl (fun h => ?_) (fun h => ?_)
  · have h := of_decide_eq_true h
    rw [List.length_map] at h
    have hi1 : i < t.frames.length := by omega
    have w1 := idx_next hi1 (by omega)
    have hx : encFrm (at' t.frames (i : Int)) = .agg (intsA [(at' t.frames (i : Int)).back, g0 (at' t.frames (i : Int)).kept 0, g0 (at' t.frames (i : Int)).kept 1, g0 (at' t.frames (i : Int)).kept 2, g0 (at' t.frames (i : Int)).kept 3]) := rfl
    repeat (first | refine js rfl ?_ | (refine jdraw ?_ ?_; · kernel_rfl) | refine jbu rfl rfl rfl rfl ?_ | refine jo rfl rfl (index_at rfl rfl rfl rfl rfl rfl rfl rfl (Int.natCast_nonneg i) h) rfl rfl ?_ | refine jo rfl rfl (eq_intsR (xs := [(at' t.frames (i : Int)).back, g0 (at' t.frames (i : Int)).kept 0, g0 (at' t.frames (i : Int)).kept 1, g0 (at' t.frames (i : Int)).kept 2, g0 (at' t.frames (i : Int)).kept 3]) (ys := [(at' t.frames (i : Int)).back, g0 (at' t.frames (i : Int)).kept 0, g0 (at' t.frames (i : Int)).kept 1, g0 (at' t.frames (i : Int)).kept 2, g0 (at' t.frames (i : Int)).kept 3]) (Or.inr rfl) rfl rfl rfl rfl rfl rfl (by kernel_rfl) (by kernel_rfl)) rfl rfl ?_)
    refine jc rfl rfl rfl (fun h => absurd h (by simp)) (fun h => ?_)
    repeat (first | refine js rfl ?_ | (refine jdraw ?_ ?_; · kernel_rfl) | refine jbu rfl rfl rfl rfl ?_)
    refine jnextI (i + 1) hi1 ?_ rfl (by omega)
    show some _ = some _
    rw [w1]
  · repeat (first | refine js rfl ?_ | (refine jdraw ?_ ?_; · kernel_rfl) | refine jbu rfl rfl rfl rfl ?_ | refine jw hli rfl rfl rfl rfl rfl rfl ?_)
    exact jr rfl rfl rfl rfl
structure WdS (w : Wd) : Prop where
  sz : WdSz w
  evs : w.evs.length ≤ 1000000
theorem rsame_ok (w : Wd) (h : WdSz w) (he : w.evs.length ≤ 1000000) : ACalls Tryz.prog 15 [encWd w, encWd w] [] (one (bv true) []) := by
  have h1 := same_ok w.code h.code
  have h2 := rsame_tso w.tso h.tso
  have h3 := fun t ht => rsame_thr t (h.each t ht).1 (h.each t ht).2
  have h4 := rsame_evts w.evs he
  have hl := h.thr
  unfold encIs at h1
  unfold encTso tCells ivs at h2
  unfold encWd wCells ivs at *
  refine jcalls Tryz.func15 rfl (by kernel_rfl) Tryz.ntmps15 rfl rfl (fun w0 β0 ext hβ => ?_)
  repeat (first | refine js rfl ?_ | (refine jdraw ?_ ?_; · kernel_rfl) | refine jbu rfl rfl rfl rfl ?_)
  refine jc rfl rfl rfl (fun h => absurd h (by simp)) (fun h => ?_)
  repeat (first | refine js rfl ?_ | (refine jdraw ?_ ?_; · kernel_rfl) | refine jbu rfl rfl rfl rfl ?_)
  refine jloopI (fun i : Nat => i ≤ w.thr.length) [2, 3, 15, 16] (fun i => [.ptr 0 0, .ptr 1 0, .v (.int .i64 ((w.thr.map encThr).length : Int)), .v (.int .i64 (i : Int))]) (fun _ => _) (fun i => w.thr.length - i) 0 (Nat.zero_le _) rfl rfl (fun i hi => ?_)
  repeat (first | refine js rfl ?_ | (refine jdraw ?_ ?_; · kernel_rfl) | refine jbu rfl rfl rfl rfl ?_)
  refine jc rfl rfl rfl (fun h => ?_) (fun h => ?_)
  · have h := of_decide_eq_true h
    rw [List.length_map] at h
    have hi1 : i < w.thr.length := by omega
    have w1 := idx_next hi1 (by omega)
    have h3 := h3 _ (at_mem hi1)
    repeat (first | refine js rfl ?_ | (refine jdraw ?_ ?_; · kernel_rfl) | refine jbu rfl rfl rfl rfl ?_ | refine jo rfl rfl (index_at rfl rfl rfl rfl rfl rfl rfl rfl (Int.natCast_nonneg i) h) rfl rfl ?_ | refine jv h3 rfl rfl rfl rfl rfl ?_)
    refine jnextI (i + 1) hi1 ?_ rfl (by omega)
    show some _ = some _
    rw [w1]
  · repeat (first | refine js rfl ?_ | (refine jdraw ?_ ?_; · kernel_rfl) | refine jbu rfl rfl rfl rfl ?_ | refine jv h1 rfl rfl rfl rfl rfl ?_ | refine jv h2 rfl rfl rfl rfl rfl ?_ | refine jv h4 rfl rfl rfl rfl rfl ?_)
    exact jr rfl rfl rfl rfl
end Go.AL
end
section
set_option maxRecDepth 100000
namespace Go.AL
open Go Go.Proofs
attribute [local irreducible] J
end Go.AL
namespace Go.AL
open Go Go.Proofs
attribute [local irreducible] J
end Go.AL
end
section
set_option maxRecDepth 100000
namespace Go.AL
open Go Go.Proofs
theorem slf_one {x y : AVal} (h : ∀ (c : Ctx) u, Rel c x u → Rel c y u) (c : Ctx) (u : Value) (hr : Rel c (.slf [x]) u) : Rel c (.slf [y]) u := by
  obtain ⟨A, es, h1, h2, ⟨u0, r1, r2, r3⟩, _⟩ := hr
  exact ⟨A, es, h1, fun _ => h2 (by simp), ⟨u0, h _ _ r1, r2, r3⟩, trivial⟩
attribute [local irreducible] J
theorem rmright_ok (m : Mem) (hw : m.words.length ≤ 1000000) (ht : m.tags.length ≤ 1000000) : ACalls Tryz.prog 13 [encMem m] [] (one (bv (mRight m)) []) := by
  obtain ⟨ws, ts⟩ := m
  simp only at hw ht
  have f1 : decide (((ws.map iv).length : Int) < 1) = !decide (1 ≤ ws.length) := by rw [List.length_map]; exact dec_not (by omega)
  have f2 : decide (((ws.map iv).length : Int) > 160) = !decide (ws.length ≤ 160) := by rw [List.length_map]; exact dec_not (by omega)
  have f3 : (((ts.map iv).length : Int) != ((ws.map iv).length : Int)) = !decide (ts.length = ws.length) := by rw [List.length_map, List.length_map, int_bne]; congr 1; exact decide_eq_decide.2 (by omega)
  unfold encMem mCells ivs mRight
  simp only
  cases b1 : decide (1 ≤ ws.length) with
  | false =>
    rw [b1] at f1
    refine jcalls Tryz.func13 rfl (by kernel_rfl) Tryz.ntmps13 rfl rfl (fun w0 β0 ext hβ => ?_)
    repeat (first | refine js rfl ?_ | (refine jdraw ?_ ?_; · kernel_rfl) | refine jbu rfl rfl rfl rfl ?_)
    rw [f1]
    repeat (first | refine js rfl ?_ | (refine jdraw ?_ ?_; · kernel_rfl) | refine jbu rfl rfl rfl rfl ?_)
    exact jr rfl rfl rfl rfl
  | true =>
    rw [b1] at f1
    cases b2 : decide (ws.length ≤ 160) with
    | false =>
      rw [b2] at f2
      refine jcalls Tryz.func13 rfl (by kernel_rfl) Tryz.ntmps13 rfl rfl (fun w0 β0 ext hβ => ?_)
      repeat (first | refine js rfl ?_ | (refine jdraw ?_ ?_; · kernel_rfl) | refine jbu rfl rfl rfl rfl ?_)
      rw [f1]
      repeat (first | refine js rfl ?_ | (refine jdraw ?_ ?_; · kernel_rfl) | refine jbu rfl rfl rfl rfl ?_)
      rw [f2]
      repeat (first | refine js rfl ?_ | (refine jdraw ?_ ?_; · kernel_rfl) | refine jbu rfl rfl rfl rfl ?_)
      exact jr rfl rfl rfl rfl
    | true =>
      rw [b2] at f2
      cases b3 : decide (ts.length = ws.length) with
      | false =>
        rw [b3] at f3
        refine jcalls Tryz.func13 rfl (by kernel_rfl) Tryz.ntmps13 rfl rfl (fun w0 β0 ext hβ => ?_)
        repeat (first | refine js rfl ?_ | (refine jdraw ?_ ?_; · kernel_rfl) | refine jbu rfl rfl rfl rfl ?_)
        rw [f1]
        repeat (first | refine js rfl ?_ | (refine jdraw ?_ ?_; · kernel_rfl) | refine jbu rfl rfl rfl rfl ?_)
        rw [f2]
        repeat (first | refine js rfl ?_ | (refine jdraw ?_ ?_; · kernel_rfl) | refine jbu rfl rfl rfl rfl ?_)
        rw [f3]
        repeat (first | refine js rfl ?_ | (refine jdraw ?_ ?_; · kernel_rfl) | refine jbu rfl rfl rfl rfl ?_)
        exact jr rfl rfl rfl rfl
      | true =>
        rw [b3] at f3
        have hlen : ts.length = ws.length := of_decide_eq_true b3
        obtain ⟨hz1, hz2⟩ := zipAll (p := tagOk) hlen
        refine jcalls Tryz.func13 rfl (by kernel_rfl) Tryz.ntmps13 rfl rfl (fun w0 β0 ext hβ => ?_)
        repeat (first | refine js rfl ?_ | (refine jdraw ?_ ?_; · kernel_rfl) | refine jbu rfl rfl rfl rfl ?_)
        rw [f1]
        repeat (first | refine js rfl ?_ | (refine jdraw ?_ ?_; · kernel_rfl) | refine jbu rfl rfl rfl rfl ?_)
        rw [f2]
        repeat (first | refine js rfl ?_ | (refine jdraw ?_ ?_; · kernel_rfl) | refine jbu rfl rfl rfl rfl ?_)
        rw [f3]
        repeat (first | refine js rfl ?_ | (refine jdraw ?_ ?_; · kernel_rfl) | refine jbu rfl rfl rfl rfl ?_)
        refine jloopI (fun k : Nat => k ≤ ts.length ∧ ∀ q, q < k → tagOk (at' ts (q : Int)) (at' ws (q : Int)) = true) [1, 2, 25, 26, 27] (fun k => [.ptr 0 0, bv false, .sl (ts.map iv), .v (.int .i64 ((ts.map iv).length : Int)), .v (.int .i64 (k : Int))])
          (fun _ => [.box 25 [.sl (ws.map iv), .sl (ts.map iv)]]) (fun k => ts.length - k) 0 ⟨Nat.zero_le _, fun q h => absurd h (by omega)⟩ rfl rfl (fun k hk => ?_)
        obtain ⟨hk, hok⟩ := hk
        repeat (first | refine js rfl ?_ | (refine jdraw ?_ ?_; · kernel_rfl) | refine jbu rfl rfl rfl rfl ?_)
        refine jc rfl rfl rfl (fun h => ?_) (fun h => ?_)
        · have h := of_decide_eq_true h
          rw [List.length_map] at h
          have hk2 : k < ts.length := by omega
          have hkw : (k : Int) < ws.length := by omega
          have hidx : IntKind.i64.wrap ((k : Int) + 1) = ((k + 1 : Nat) : Int) := idx_next hk2 (by omega)
          have hno := hz2 k hk2
          have hnx : tagOk (at' ts (k : Int)) (at' ws (k : Int)) = true → ∀ q, q < k + 1 → tagOk (at' ts (q : Int)) (at' ws (q : Int)) = true := fun hb q hq => by
            by_cases e : q = k
            · subst e; exact hb
            · exact hok q (by omega)
          repeat (first | refine js rfl ?_ | (refine jdraw ?_ ?_; · kernel_rfl) | refine jbu rfl rfl rfl rfl ?_ | refine jo rfl rfl (index_at rfl rfl rfl rfl rfl rfl rfl rfl (Int.natCast_nonneg k) h) rfl rfl ?_)
          generalize hT : at' ts (k : Int) = T at *
          generalize hV : at' ws (k : Int) = V at *
          by_cases g1 : T < 0
          · rw [decide_eq_true g1]
            rw [hno (by simp [tagOk]; omega)]
            repeat (first | refine js rfl ?_ | (refine jdraw ?_ ?_; · kernel_rfl) | refine jbu rfl rfl rfl rfl ?_)
            exact jr rfl rfl rfl rfl
          · rw [decide_eq_false g1]
            repeat (first | refine js rfl ?_ | (refine jdraw ?_ ?_; · kernel_rfl) | refine jbu rfl rfl rfl rfl ?_)
            by_cases g2 : T > 2
            · rw [decide_eq_true g2]
              rw [hno (by simp [tagOk]; omega)]
              repeat (first | refine js rfl ?_ | (refine jdraw ?_ ?_; · kernel_rfl) | refine jbu rfl rfl rfl rfl ?_)
              exact jr rfl rfl rfl rfl
            · rw [decide_eq_false g2]
              repeat (first | refine js rfl ?_ | (refine jdraw ?_ ?_; · kernel_rfl) | refine jbu rfl rfl rfl rfl ?_)
              by_cases g3 : T = 0
              · subst g3
                repeat (first | refine js rfl ?_ | (refine jdraw ?_ ?_; · kernel_rfl) | refine jbu rfl rfl rfl rfl ?_ | refine jo rfl rfl (index_at rfl rfl rfl rfl rfl rfl rfl rfl (Int.natCast_nonneg k) hkw) rfl rfl ?_)
                rw [hV]
                by_cases g4 : V = 0
                · subst g4
                  repeat (first | refine js rfl ?_ | (refine jdraw ?_ ?_; · kernel_rfl) | refine jbu rfl rfl rfl rfl ?_)
                  refine jnextI (k + 1) ⟨by omega, hnx rfl⟩ ?_ rfl (by omega)
                  show some _ = some _
                  rw [hidx]
                · rw [show (V != 0) = true from by rw [bne_iff_ne]; exact g4]
                  rw [hno (by simp [tagOk, g4])]
                  repeat (first | refine js rfl ?_ | (refine jdraw ?_ ?_; · kernel_rfl) | refine jbu rfl rfl rfl rfl ?_)
                  exact jr rfl rfl rfl rfl
              · rw [show (T == 0) = false from by rw [beq_eq_false_iff_ne]; exact g3]
                repeat (first | refine js rfl ?_ | (refine jdraw ?_ ?_; · kernel_rfl) | refine jbu rfl rfl rfl rfl ?_)
                refine jnextI (k + 1) ⟨by omega, hnx (by simp [tagOk]; omega)⟩ ?_ rfl (by omega)
                show some _ = some _
                rw [hidx]
        · have h := of_decide_eq_false h
          rw [List.length_map] at h
          rw [hz1 fun q hq => hok q (by omega)]
          repeat (first | refine js rfl ?_ | (refine jdraw ?_ ?_; · kernel_rfl) | refine jbu rfl rfl rfl rfl ?_)
          exact jr rfl rfl rfl rfl
theorem rep_succ {α : Type} (n : Nat) (x : α) : List.replicate n x ++ [x] = List.replicate (n + 1) x := by rw [List.replicate_succ']
theorem sl_nil_buf (c : Ctx) (u : Value) (h : Rel c (.slf []) u) : Rel c (encBuf []) u := sl_weak h
theorem rtnew_ok (m : Mem) (n : Nat) (d : Int) (hn : n ≤ 1000) : ACalls Tryz.prog 97 [encMem m, iv (n : Int), iv d] [] (one (encTso ⟨m, d, List.replicate n []⟩) []) := by
  unfold encTso tCells encMem mCells ivs
  refine jcalls Tryz.func97 rfl (by kernel_rfl) Tryz.ntmps97 rfl rfl (fun w0 β0 ext hβ => ?_)
  repeat (first | refine jadB 2 3 170 1 rfl rfl rfl rfl ?_ | refine js rfl ?_ | (refine jdraw ?_ ?_; · kernel_rfl) | refine jbu rfl rfl rfl rfl ?_)
  refine jloopI (fun q : Nat => q ≤ n) [1, 3, 6, 7, 8] (fun q => [iv (n : Int), .ptr 0 0, .ptr 1 0, .ptr 2 0, iv (q : Int)])
    (fun q => [.box 25 [.sl (m.words.map iv), .sl (m.tags.map iv)], .box 29 [.slf [], .slf [], iv 0, .slf []], .box 29 [.sl (m.words.map iv), .sl (m.tags.map iv), iv d, .arr 3 (q + 1)], .arr (q + 1) 170 1 ((List.replicate q ([] : List Wput)).map encBuf)]) (fun q => n - q) 0 (Nat.zero_le _) rfl rfl (fun q hq => ?_)
  repeat (first | refine js rfl ?_ | (refine jdraw ?_ ?_; · kernel_rfl) | refine jbu rfl rfl rfl rfl ?_)
  by_cases h : q < n
  · rw [show decide ((q : Int) < (n : Int)) = true from decide_eq_true (by omega)]
    have hidx : IntKind.i64.wrap ((q : Int) + 1) = ((q + 1 : Nat) : Int) := by rw [wrap_id] <;> omega
    repeat (first | refine jow rfl rfl (buildB_dsem rfl) (slf_one sl_nil_buf) rfl rfl ?_ | refine js rfl ?_ | (refine jdraw ?_ ?_; · kernel_rfl) | refine jbu rfl rfl rfl rfl ?_)
    refine jo rfl rfl (append_enc (enc := encBuf) (l := List.replicate q ([] : List Wput)) [] rfl rfl rfl rfl rfl rfl rfl rfl rfl rfl (fun x => ⟨rfl, rfl⟩) rfl (by rw [List.length_replicate]; omega) rfl rfl) rfl rfl ?_
    rw [rep_succ]
    repeat (first | refine js rfl ?_ | (refine jdraw ?_ ?_; · kernel_rfl) | refine jbu rfl rfl rfl rfl ?_)
    refine jnextI (q + 1) h ?_ rfl (by omega)
    show some _ = some _
    rw [hidx]
    rfl
  · have : q = n := by omega
    subst this
    rw [show decide ((q : Int) < (q : Int)) = false from decide_eq_false (by omega)]
    refine jc rfl rfl rfl (fun hf => absurd hf (by decide)) (fun _ => ?_)
    refine jpubB 2 3 3 rfl rfl rfl rfl rfl rfl rfl ?_
    repeat (first | refine js rfl ?_ | (refine jdraw ?_ ?_; · kernel_rfl) | refine jbu rfl rfl rfl rfl ?_)
    exact jret [] true rfl rfl rfl ⟨rfl, rfl⟩
theorem rwnew_ok (code : List Ins) (st : List Int) (m : Mem) (d : Int) (hs : st.length ≤ 1000) : ACalls Tryz.prog 54 [encIs code, ivs st, encMem m, iv d] [] (one (encWd (newOk code st m d)) []) := by
  have h3 := rtnew_ok m st.length d hs
  have hlm : ((st.map iv).length : Int) = (st.length : Int) := by rw [List.length_map]
  have he : (st.map thrP).map encThr = st.map fun a => encThr (thrP a) := by rw [List.map_map]; rfl
  unfold newOk
  unfold encWd wCells encTso tCells encIs encMem mCells at *
  unfold ivs at *
  simp only
  rw [he]
  refine jcalls Tryz.func54 rfl (by kernel_rfl) Tryz.ntmps54 rfl rfl (fun w0 β0 ext hβ => ?_)
  repeat (first | refine js rfl ?_ | (refine jdraw ?_ ?_; · kernel_rfl) | refine jbu rfl rfl rfl rfl ?_)
  rw [hlm]
  repeat (first | refine jadB 2 5 53 13 rfl rfl rfl rfl ?_ | refine js rfl ?_ | (refine jdraw ?_ ?_; · kernel_rfl) | refine jbu rfl rfl rfl rfl ?_ | refine jv h3 rfl rfl rfl rfl rfl ?_)
  refine jloopI (fun q : Nat => q ≤ st.length) [8, 9, 19, 20, 21] (fun q => [.ptr 1 0, .ptr 2 0, .sl (st.map iv), .v (.int .i64 ((st.map iv).length : Int)), .v (.int .i64 (q : Int))])
    (fun q => [.box 25 [.sl (m.words.map iv), .sl (m.tags.map iv)], .box 33 [.slf [], .slf [], .slf [], iv 0, .slf [], .slf [], .slf []],
      .box 33 [.sl (code.map encIns), .sl (m.words.map iv), .sl (m.tags.map iv), iv d, .sl ((List.replicate st.length ([] : List Wput)).map encBuf), .arr 3 (q + 1), .slf []], .arr (q + 1) 53 13 ((st.take q).map fun a => encThr (thrP a))]) (fun q => st.length - q) 0 (Nat.zero_le _) rfl rfl (fun q hq => ?_)
  repeat (first | refine js rfl ?_ | (refine jdraw ?_ ?_; · kernel_rfl) | refine jbu rfl rfl rfl rfl ?_)
  refine jc rfl rfl rfl (fun h => ?_) (fun h => ?_)
  · have h := of_decide_eq_true h
    rw [List.length_map] at h
    have hq2 : q < st.length := by omega
    have hidx : IntKind.i64.wrap ((q : Int) + 1) = ((q + 1 : Nat) : Int) := idx_next hq2 (by omega)
    have htk : (st.take q) ++ [at' st (q : Int)] = st.take (q + 1) := by rw [at_nat st q hq2, List.take_add_one, List.getElem?_eq_getElem hq2]; rfl
    have hln : (st.take q).length ≤ 1000 := by rw [List.length_take]; omega
    repeat (first | refine jow rfl rfl (readP_dsem rfl) (thr_weak _) rfl rfl ?_ | refine js rfl ?_ | (refine jdraw ?_ ?_; · kernel_rfl) | refine jbu rfl rfl rfl rfl ?_ | refine jo rfl rfl (index_at rfl rfl rfl rfl rfl rfl rfl rfl (Int.natCast_nonneg q) h) rfl rfl ?_)
    refine jo rfl rfl (append_enc (enc := fun a => encThr (thrP a)) (l := st.take q) (at' st (q : Int)) rfl rfl rfl rfl rfl rfl rfl rfl rfl rfl (elemsP []) rfl (by omega) rfl rfl) rfl rfl ?_
    rw [htk]
    repeat (first | refine js rfl ?_ | (refine jdraw ?_ ?_; · kernel_rfl) | refine jbu rfl rfl rfl rfl ?_)
    refine jnextI (q + 1) hq2 ?_ rfl (by omega)
    show some _ = some _
    rw [hidx]
  · have h := of_decide_eq_false h
    rw [List.length_map] at h
    have : q = st.length := by omega
    subst this
    rw [List.take_length]
    refine jpubB 2 5 3 rfl rfl rfl rfl rfl rfl rfl ?_
    repeat (first | refine js rfl ?_ | (refine jdraw ?_ ?_; · kernel_rfl) | refine jbu rfl rfl rfl rfl ?_)
    exact jret [] true rfl rfl rfl ⟨rfl, rfl⟩
end Go.AL
end
section
set_option maxRecDepth 100000
namespace Go.AL
open Go Go.Proofs
attribute [local irreducible] J
structure RrI (w : Wd) (m : Nat) (s : Nat × Wd) : Prop where
  le : s.1 ≤ m
  right : WdR s.2
  thr : s.2.thr.length = w.thr.length
  evs : s.2.evs.length ≤ w.evs.length + 16 * s.1
  eq : roundsW w m = ((roundsW s.2 (m - s.1)).1, s.1 + (roundsW s.2 (m - s.1)).2)
end Go.AL
end
section
set_option maxRecDepth 100000
namespace Go.AL
open Go Go.Proofs
attribute [local irreducible] J
theorem newOk_right {code : List Ins} {st : List Int} {m : Mem} {d : Int} (hc : rightC code = true) (hm : mRight m = true) (h1 : 1 ≤ st.length) (h8 : st.length ≤ 8) (hd : 0 ≤ d ∧ d ≤ 8) (hs : ∀ a ∈ st, 0 ≤ a ∧ a ≤ code.length) : WdR (newOk code st m d) := by
  have hl : code.length ≤ 1000 := by
    unfold rightC at hc
    rw [Bool.and_eq_true] at hc
    exact of_decide_eq_true hc.1
  refine ⟨hc, ⟨hm, ⟨⟨by simp [newOk]; omega, by simp [newOk]; omega⟩, hd⟩, fun b hb => ?_⟩, by simp [newOk], fun t ht => ?_⟩
  · have hb : b ∈ List.replicate st.length ([] : List Wput) := hb
    rw [List.eq_of_mem_replicate hb]
    exact ⟨hd.1, fun p hp => absurd hp List.not_mem_nil⟩
  · have ht : t ∈ st.map thrP := ht
    obtain ⟨a, ha, rfl⟩ := List.mem_map.1 ht
    have := hs a ha
    exact ⟨thRight_iff.2 ⟨by show 0 ≤ a ∧ a ≤ 1000; omega, Nat.zero_le _, Nat.zero_le _, fun f hf => absurd hf List.not_mem_nil, fun f hf => absurd hf List.not_mem_nil, .inl ⟨.inl rfl, rfl⟩⟩, .inl rfl⟩
def cl (L : Nat) (s : Int) : Int := (IntKind.i64.wrap (IntKind.i64.wrap (s.tmod (IntKind.i64.wrap ((L : Int) + 1)) + L) + 1)).tmod (IntKind.i64.wrap ((L : Int) + 1))
end Go.AL
end
section
set_option maxRecDepth 100000
namespace Go.AL
open Go Go.Proofs
theorem ACalls.argw {P : Program} {f : FuncId} {args args' : List AVal} {H : List AObj} {Q : Eff} (h : ACalls P f args H Q) (hr : ∀ (c : Ctx) us, RelL c args' us → RelL c args us) : ACalls P f args' H Q :=
  ⟨h.enters, fun ext w β us hI hx h0 => h.calls ext w β us hI hx (hr _ _ h0)⟩
theorem agg_weak {c : Ctx} {cs cs' : List AVal} (hr : ∀ us, RelL c cs us → RelL c cs' us) (u : Value) (h : Rel c (.agg cs) u) : Rel c (.agg cs') u := by
  obtain ⟨a, e, h⟩ := h
  exact ⟨a, e, hr _ h⟩
attribute [local irreducible] J
def haltT : Bs := [115,101,116,32,114,49,32,55,10,104,97,108,116,10,97,58,10,115,101,116,32,114,49,32,56,10,104,97,108,116,10]
def haltC : List Ins := [⟨1, 1, 7, 0⟩, ⟨0, 0, 0, 0⟩, ⟨1, 1, 8, 0⟩, ⟨0, 0, 0, 0⟩]
theorem halt_parse : parseP haltT = (haltC, 0, 0) := by decide +kernel
theorem halt_where : whereP haltT [97] = (2, 0) := by decide +kernel
def haltW : Wd := newOk haltC [2] ⟨[0], [1]⟩ 0
theorem haltW_right : WdR haltW := newOk_right (by decide +kernel) (by decide) (by decide) (by decide) (by decide) (by intro a ha; simp at ha; subst ha; decide)
theorem halt_new : newW haltC [2] ⟨[0], [1]⟩ 0 = (haltW, 0) := by
  unfold newW haltW
  rw [show rightC haltC = true by decide +kernel]
  rfl
theorem halt_runs : (roundsW haltW 9).2 = 2 ∧ (roundsW haltW 9).1.thr.length = 1 ∧ g0 (at' (roundsW haltW 9).1.thr (0 : Int)).regs 1 = 8 := by decide +kernel
theorem halive_ok (g : Gl) : ACalls Tryz.prog 14 [] (gls g) (one (bv true) (gls g)) := by
  have h1 := snew_ok g haltT [[97]] ⟨[0], [1]⟩ 0 (by decide) (by decide) (by decide) (by rw [halt_parse]) (by intro l hl; simp at hl; subst hl; rw [halt_where]) (by rw [halt_parse]; decide)
  have e1 : stAt haltT [[97]] = [2] := by unfold stAt; simp [halt_where]
  rw [halt_parse, e1] at h1
  simp only at h1
  rw [halt_new] at h1
  have h2 := rounds_ok haltW 9 haltW_right (by decide) (by decide)
  obtain ⟨r1, r2, r3⟩ := halt_runs
  rw [r1] at h2
  generalize (roundsW haltW 9).1 = w at *
  simp only at h1
  generalize haltW = w0 at *
  have hl : ((((w.thr.map encThr).length : Nat) : Int) == 1) = true := by rw [List.length_map, r2]; rfl
  have h0 : (0 : Int) < w.thr.length := by omega
  unfold gls at *
  unfold encWd wCells encMem mCells ivs at *
  have h1 := h1.argw (args' := [sv haltT, .slf [sv [97]], .agg [.slf [iv 0], .slf [iv 1]], iv 0])
    (fun c us h => relL_cons (fun u h => h) (relL_cons (fun u h => sl_weak h) (relL_cons (agg_weak (relL_cons (fun u h => sl_weak h) (relL_cons (fun u h => sl_weak h) (fun us h => h)))) (fun us h => h))) us h)
  refine jcalls Tryz.func14 rfl (by kernel_rfl) Tryz.ntmps14 rfl rfl (fun w0 β0 ext hβ => ?_)
  repeat (first | refine js rfl ?_ | (refine jdraw ?_ ?_; · kernel_rfl) | refine jbu rfl rfl rfl rfl ?_)
  refine jb [0,1,2,3] h1 rfl rfl rfl ⟨rfl, rfl, rfl, rfl, rfl, rfl⟩ rfl rfl rfl rfl ?_
  repeat (first | refine js rfl ?_ | (refine jdraw ?_ ?_; · kernel_rfl) | refine jbu rfl rfl rfl rfl ?_ | refine jv h2 rfl rfl rfl rfl rfl ?_)
  rw [hl]
  repeat (first | refine js rfl ?_ | (refine jdraw ?_ ?_; · kernel_rfl) | refine jbu rfl rfl rfl rfl ?_ | refine jo rfl rfl (index_at rfl rfl rfl rfl rfl rfl rfl rfl (Int.le_refl 0) h0) rfl rfl ?_)
  refine jo rfl rfl (index_pp rfl rfl rfl rfl rfl (by decide) (by decide)) rfl rfl ?_
  repeat (first | refine js rfl ?_ | (refine jdraw ?_ ?_; · kernel_rfl) | refine jbu rfl rfl rfl rfl ?_)
  rw [r3]
  repeat (first | refine js rfl ?_ | (refine jdraw ?_ ?_; · kernel_rfl) | refine jbu rfl rfl rfl rfl ?_)
  exact jr rfl rfl rfl rfl
end Go.AL
end
section
set_option maxRecDepth 100000
namespace Go.AL
open Go Go.Proofs
attribute [local irreducible] J
def rst (s : Bs) (ls : List Bs) : List Int := ls.map fun l => (rwhere s l).1
theorem rst_take (s : Bs) (ls : List Bs) {q : Nat} (h : q < ls.length) : rst s (ls.take (q + 1)) = rst s (ls.take q) ++ [(rwhere s (at' ls (q : Int))).1] := by
  unfold rst
  rw [at_nat ls q h, List.take_add_one, List.getElem?_eq_getElem h, List.map_append]
  rfl
theorem rstarts_ok (s : Bs) (ls : List Bs) (hs : s.length ≤ 900000) (hl : ls.length ≤ 1000) (hm : ∀ l ∈ ls, l.length ≤ 1000000) (hall : ∀ l ∈ ls, (rwhere s l).2 = 0) :
    ACalls Tryz.prog 12 [sv s, .sl (ls.map sv)] [] (one (.tup [ivs (rst s ls), bv true]) []) := by
  refine jcalls Tryz.func12 rfl (by kernel_rfl) Tryz.ntmps12 rfl rfl (fun w0 β0 ext hβ => ?_)
  repeat (first | refine jad 6 3 1 rfl rfl rfl rfl ?_ | refine js rfl ?_ | (refine jdraw ?_ ?_; · kernel_rfl) | refine jbu rfl rfl rfl rfl ?_)
  refine jloopI (fun q : Nat => q ≤ ls.length) [0, 6, 12, 13, 14] (fun q => [sv s, .arr 0 (q + 1), .sl (ls.map sv), .v (.int .i64 ((ls.map sv).length : Int)), .v (.int .i64 (q : Int))])
    (fun q => [.arr (q + 1) 3 1 ((rst s (ls.take q)).map iv)]) (fun q => ls.length - q) 0 (Nat.zero_le _) rfl rfl (fun q hq => ?_)
  repeat (first | refine js rfl ?_ | (refine jdraw ?_ ?_; · kernel_rfl) | refine jbu rfl rfl rfl rfl ?_)
  refine jc rfl rfl rfl (fun h => ?_) (fun h => ?_)
  · have h := of_decide_eq_true h
    rw [List.length_map] at h
    have hq2 : q < ls.length := by omega
    have hidx : IntKind.i64.wrap ((q : Int) + 1) = ((q + 1 : Nat) : Int) := idx_next hq2 (by omega)
    have htk := rst_take s ls hq2
    have hw := rwhere_ok s (at' ls (q : Int)) hs (hm _ (at_mem hq2))
    have h0 := hall _ (at_mem hq2)
    have hln : (rst s (ls.take q)).length ≤ 1000 := by unfold rst; rw [List.length_map, List.length_take]; omega
    generalize rwhere s (at' ls (q : Int)) = r at *
    obtain ⟨r1, r2⟩ := r
    simp only at h0 htk hw
    subst h0
    repeat (first | refine js rfl ?_ | (refine jdraw ?_ ?_; · kernel_rfl) | refine jbu rfl rfl rfl rfl ?_ | refine jo rfl rfl (index_at rfl rfl rfl rfl rfl rfl rfl rfl (Int.natCast_nonneg q) h) rfl rfl ?_ | refine jv hw rfl rfl rfl rfl rfl ?_)
    refine jo rfl rfl (append_enc (enc := iv) (l := rst s (ls.take q)) r1 rfl rfl rfl rfl rfl rfl rfl rfl rfl rfl (fun x => ⟨rfl, rfl⟩) rfl (by omega) rfl rfl) rfl rfl ?_
    rw [← htk]
    repeat (first | refine js rfl ?_ | (refine jdraw ?_ ?_; · kernel_rfl) | refine jbu rfl rfl rfl rfl ?_)
    refine jnextI (q + 1) hq2 ?_ rfl (by omega)
    show some _ = some _
    rw [hidx]
  · have h := of_decide_eq_false h
    rw [List.length_map] at h
    have : q = ls.length := by omega
    subst this
    rw [List.take_length]
    refine jpub 6 rfl rfl rfl rfl ?_
    repeat (first | refine js rfl ?_ | (refine jdraw ?_ ?_; · kernel_rfl) | refine jbu rfl rfl rfl rfl ?_)
    exact jret [] true rfl rfl rfl ⟨rfl, rfl⟩
theorem rstarts_bad (s : Bs) (ls : List Bs) (k : Nat) (hs : s.length ≤ 900000) (hl : ls.length ≤ 1000) (hm : ∀ l ∈ ls, l.length ≤ 1000000) (hk : k < ls.length) (hok : ∀ p, p < k → (rwhere s (at' ls (p : Int))).2 = 0) (hbad : (rwhere s (at' ls (k : Int))).2 ≠ 0) :
    ACalls Tryz.prog 12 [sv s, .sl (ls.map sv)] [] (one (.tup [.sl [], bv false]) []) := by
  refine jcalls Tryz.func12 rfl (by kernel_rfl) Tryz.ntmps12 rfl rfl (fun w0 β0 ext hβ => ?_)
  repeat (first | refine jad 6 3 1 rfl rfl rfl rfl ?_ | refine js rfl ?_ | (refine jdraw ?_ ?_; · kernel_rfl) | refine jbu rfl rfl rfl rfl ?_)
  refine jloopI (fun q : Nat => q ≤ k) [0, 6, 12, 13, 14] (fun q => [sv s, .arr 0 (q + 1), .sl (ls.map sv), .v (.int .i64 ((ls.map sv).length : Int)), .v (.int .i64 (q : Int))])
    (fun q => [.arr (q + 1) 3 1 ((rst s (ls.take q)).map iv)]) (fun q => ls.length - q) 0 (Nat.zero_le _) rfl rfl (fun q hq => ?_)
  repeat (first | refine js rfl ?_ | (refine jdraw ?_ ?_; · kernel_rfl) | refine jbu rfl rfl rfl rfl ?_)
  refine jc rfl rfl rfl (fun h => ?_) (fun h => ?_)
  · have h := of_decide_eq_true h
    rw [List.length_map] at h
    have hq2 : q < ls.length := by omega
    have hidx : IntKind.i64.wrap ((q : Int) + 1) = ((q + 1 : Nat) : Int) := idx_next hq2 (by omega)
    have htk := rst_take s ls hq2
    have hw := rwhere_ok s (at' ls (q : Int)) hs (hm _ (at_mem hq2))
    have hln : (rst s (ls.take q)).length ≤ 1000 := by unfold rst; rw [List.length_map, List.length_take]; omega
    by_cases e : q = k
    · subst e
      have hd : ((rwhere s (at' ls (q : Int))).2 != 0) = true := by rw [bne_iff_ne]; exact hbad
      repeat (first | refine js rfl ?_ | (refine jdraw ?_ ?_; · kernel_rfl) | refine jbu rfl rfl rfl rfl ?_ | refine jo rfl rfl (index_at rfl rfl rfl rfl rfl rfl rfl rfl (Int.natCast_nonneg q) h) rfl rfl ?_ | refine jv hw rfl rfl rfl rfl rfl ?_)
      rw [hd]
      repeat (first | refine js rfl ?_ | (refine jdraw ?_ ?_; · kernel_rfl) | refine jbu rfl rfl rfl rfl ?_)
      exact jret [] true rfl rfl rfl ⟨rfl, rfl⟩
    · have h0 := hok q (by omega)
      generalize rwhere s (at' ls (q : Int)) = r at *
      obtain ⟨r1, r2⟩ := r
      simp only at h0 htk hw
      subst h0
      repeat (first | refine js rfl ?_ | (refine jdraw ?_ ?_; · kernel_rfl) | refine jbu rfl rfl rfl rfl ?_ | refine jo rfl rfl (index_at rfl rfl rfl rfl rfl rfl rfl rfl (Int.natCast_nonneg q) h) rfl rfl ?_ | refine jv hw rfl rfl rfl rfl rfl ?_)
      refine jo rfl rfl (append_enc (enc := iv) (l := rst s (ls.take q)) r1 rfl rfl rfl rfl rfl rfl rfl rfl rfl rfl (fun x => ⟨rfl, rfl⟩) rfl (by omega) rfl rfl) rfl rfl ?_
      rw [← htk]
      repeat (first | refine js rfl ?_ | (refine jdraw ?_ ?_; · kernel_rfl) | refine jbu rfl rfl rfl rfl ?_)
      refine jnextI (q + 1) (by omega) ?_ rfl (by omega)
      show some _ = some _
      rw [hidx]
  · exfalso
    have h := of_decide_eq_false h
    rw [List.length_map] at h
    omega
theorem rworld_ok (s : Bs) (ls : List Bs) (m : Mem) (d : Int) (hs : s.length ≤ 900000) (hl : ls.length ≤ 1000) (hm : ∀ l ∈ ls, l.length ≤ 1000000) (hall : ∀ l ∈ ls, (rwhere s l).2 = 0) :
    ACalls Tryz.prog 16 [sv s, .sl (ls.map sv), encMem m, iv d] [] (one (encWd (newOk (rparse s).1 (rst s ls) m d)) []) := by
  have h1 := rparse_ok s hs
  have h2 := rstarts_ok s ls hs hl hm hall
  have h3 := rwnew_ok (rparse s).1 (rst s ls) m d (by unfold rst; rw [List.length_map]; omega)
  generalize rst s ls = st at *
  generalize rparse s = r at *
  obtain ⟨r1, r2, r3⟩ := r
  simp only at h1 h3 ⊢
  generalize newOk r1 st m d = w at *
  unfold encIs encWd wCells encMem mCells ivs at *
  refine jcalls Tryz.func16 rfl (by kernel_rfl) Tryz.ntmps16 rfl rfl (fun w0 β0 ext hβ => ?_)
  repeat (first | refine js rfl ?_ | (refine jdraw ?_ ?_; · kernel_rfl) | refine jbu rfl rfl rfl rfl ?_ | refine jv h1 rfl rfl rfl rfl rfl ?_ | refine jv h2 rfl rfl rfl rfl rfl ?_ | refine jv h3 rfl rfl rfl rfl rfl ?_)
  exact jr rfl rfl rfl rfl
end Go.AL
end
section
set_option maxRecDepth 100000
namespace Go.AL
open Go Go.Proofs
attribute [local irreducible] J
theorem wd0_sz : WdSz wd0 := ⟨by decide, ⟨by decide, by decide, by decide, fun _ h => by cases h⟩, by decide, fun _ h => by cases h⟩
theorem first_bad {α : Type} (f : α → Int) (dflt : α) : ∀ (l : List α), (∀ x ∈ l, f x = 0) ∨ ∃ k, k < l.length ∧ (∀ p, p < k → f (l.getD p dflt) = 0) ∧ f (l.getD k dflt) ≠ 0
  | [] => .inl fun x h => by cases h
  | x :: xs => by
    by_cases h : f x = 0
    · rcases first_bad f dflt xs with h1 | ⟨k, h1, h2, h3⟩
      · exact .inl fun y hy => by
          rcases List.mem_cons.1 hy with rfl | hy
          · exact h
          · exact h1 y hy
      · exact .inr ⟨k + 1, by simp; omega, fun p hp => by
          cases p with
          | zero => exact h
          | succ p => exact h2 p (by omega), h3⟩
    · exact .inr ⟨0, by simp, fun p hp => by omega, h⟩
theorem rst_eq {s : Bs} (h : (rparse s).2.2 = 0) (ls : List Bs) : stAt s ls = rst s ls ∧ ((∀ l ∈ ls, (whereP s l).2 = 0) ↔ ∀ l ∈ ls, (rwhere s l).2 = 0) := by
  have e : ∀ l, whereP s l = rwhere s l := fun l => by rw [where_eq, h]; rfl
  unfold stAt rst
  simp only [e]
  exact ⟨trivial, trivial⟩
theorem newW_good {s : Bs} (h : (rparse s).2.2 = 0) (ls : List Bs) (m : Mem) (d : Int) (hm : mRight m = true) (hz : inn ls.length 1 8 = true) (hd : inn d 0 8 = true) : newW (rparse s).1 (rst s ls) m d = (newOk (rparse s).1 (rst s ls) m d, 0) := by
  unfold newW
  have hl : (rst s ls).length = ls.length := by unfold rst; rw [List.length_map]
  rw [parse_right h, hm, hl, hz, hd]
  have : ((rst s ls).all fun a => inn a 0 (rparse s).1.length) = true := List.all_eq_true.2 fun a ha => by
    unfold rst at ha
    obtain ⟨l, _, rfl⟩ := List.mem_map.1 ha
    exact inn_iff.2 (where_right h)
  rw [this]; rfl
theorem newW_mem {s : Bs} (h : (rparse s).2.2 = 0) (st : List Int) (m : Mem) (d : Int) (hm : mRight m = false) : newW (rparse s).1 st m d = (wd0, 1) := by
  unfold newW
  rw [parse_right h, hm]; rfl
theorem newW_size {s : Bs} (h : (rparse s).2.2 = 0) (st : List Int) (m : Mem) (d : Int) (hm : mRight m = true) (hz : (inn st.length 1 8 && inn d 0 8) = false) : newW (rparse s).1 st m d = (wd0, 2) := by
  unfold newW
  rw [parse_right h, hm, hz]; rfl
theorem newOk_r {s : Bs} (h : (rparse s).2.2 = 0) (ls : List Bs) (m : Mem) (d : Int) (hm : mRight m = true) (hz : inn ls.length 1 8 = true) (hd : inn d 0 8 = true) : WdR (newOk (rparse s).1 (rst s ls) m d) := by
  have hl : (rst s ls).length = ls.length := by unfold rst; rw [List.length_map]
  obtain ⟨z1, z2⟩ := inn_iff.1 hz
  refine newOk_right (parse_right h) hm (by omega) (by omega) (inn_iff.1 hd) fun a ha => ?_
  unfold rst at ha
  obtain ⟨l, _, rfl⟩ := List.mem_map.1 ha
  exact where_right h
theorem rstarts_any (s : Bs) (ls : List Bs) (hs : s.length ≤ 900000) (hl : ls.length ≤ 1000) (hm : ∀ l ∈ ls, l.length ≤ 1000000) :
    ∃ x b, ACalls Tryz.prog 12 [sv s, .sl (ls.map sv)] [] (one (.tup [ivs x, bv b]) []) ∧ (b = true ↔ ∀ l ∈ ls, (rwhere s l).2 = 0) := by
  rcases first_bad (fun l => (rwhere s l).2) default ls with h | ⟨k, h1, h2, h3⟩
  · exact ⟨_, _, rstarts_ok s ls hs hl hm h, ⟨fun _ => h, fun _ => rfl⟩⟩
  · refine ⟨[], false, rstarts_bad s ls k hs hl hm h1 h2 h3, ⟨fun h => (by cases h), fun h => absurd (h _ (at_mem h1)) h3⟩⟩
theorem cut_eq (l : Bs) (n : Nat) : l.take (min n l.length) = l.take n := by rw [← List.take_eq_take_min]
def lnm (ls : List Bs) : List Bs := (ls.take 10).map (·.take 20)
theorem makes_ok (g : Gl) (t0 : TypeId) (f0 : Nat × Nat) (s : Bs) (ls : List Bs) (ws ts : List Int) (d : Int) : ACalls Tryz.prog 3 [sv s, .sl (ls.map sv), ivs ws, ivs ts, iv d] (gls g ++ [eF t0 f0]) (one (bv true) (gls g ++ [eF t0 f0])) := by
  have hm0 : (if (3000 : Int) < ((ByteArray.size ⟨s.toArray⟩ : Nat) : Int) then (3000 : Int) else ((ByteArray.size ⟨s.toArray⟩ : Nat) : Int)) = ((min 3000 s.length : Nat) : Int) := by
    rw [show ByteArray.size ⟨s.toArray⟩ = s.length from rfl]; split <;> omega
  have m1 : (if (10 : Int) < (((ls.map sv).length : Nat) : Int) then (10 : Int) else (((ls.map sv).length : Nat) : Int)) = ((min ls.length 10 : Nat) : Int) := by rw [List.length_map]; split <;> omega
  have m2 : (if (170 : Int) < (((ws.map iv).length : Nat) : Int) then (170 : Int) else (((ws.map iv).length : Nat) : Int)) = ((min ws.length 170 : Nat) : Int) := by rw [List.length_map]; split <;> omega
  have m3 : (if (170 : Int) < (((ts.map iv).length : Nat) : Int) then (170 : Int) else (((ts.map iv).length : Nat) : Int)) = ((min ts.length 170 : Nat) : Int) := by rw [List.length_map]; split <;> omega
  have hlt : (s.take 3000).length ≤ 3000 := by rw [List.length_take]; omega
  have hll : (ls.take 10).length ≤ 10 := by rw [List.length_take]; omega
  have hnm : lnm ls = (ls.take 10).map (·.take 20) := rfl
  unfold gls eF
  unfold ivs
  refine jcalls Tryz.func3 rfl (by kernel_rfl) Tryz.ntmps3 rfl rfl (fun w0 β0 ext hβ => ?_)
  repeat (first | refine js rfl ?_ | (refine jdraw ?_ ?_; · kernel_rfl) | refine jbu rfl rfl rfl rfl ?_)
  rw [hm0]
  refine jo rfl rfl (cutH (min 3000 s.length) rfl rfl rfl rfl rfl (by omega)) rfl rfl ?_
  rw [cut_eq s 3000]
  repeat (first | refine js rfl ?_ | (refine jdraw ?_ ?_; · kernel_rfl) | refine jbu rfl rfl rfl rfl ?_)
  refine jo rfl rfl (cut_take 10 rfl rfl rfl m1 rfl rfl rfl (fun _ => ⟨rfl, rfl⟩)) rfl rfl ?_
  repeat (first | refine jad 11 9 1 rfl rfl rfl rfl ?_ | refine js rfl ?_ | (refine jdraw ?_ ?_; · kernel_rfl) | refine jbu rfl rfl rfl rfl ?_)
  clear hnm m1
  generalize s.take 3000 = t at *
  generalize ls.take 10 = l1 at *
  refine jloopI (fun q : Nat => q ≤ l1.length) [0, 2, 3, 4, 11, 32, 33, 34] (fun q => [sv t, .sl (ws.map iv), .sl (ts.map iv), iv d, .arr 5 (q + 1), .sl (l1.map sv), .v (.int .i64 ((l1.map sv).length : Int)), .v (.int .i64 (q : Int))])
    (fun q => [g.a, g.b, g.c, g.d, .fix 0 (.cells #[eVal] t0 f0), .arr (q + 1) 9 1 (((l1.take q).map (·.take 20)).map sv)]) (fun q => l1.length - q) 0 (Nat.zero_le _) rfl rfl (fun q hq => ?_)
  repeat (first | refine js rfl ?_ | (refine jdraw ?_ ?_; · kernel_rfl) | refine jbu rfl rfl rfl rfl ?_)
  refine jc rfl rfl rfl (fun h => ?_) (fun h => ?_)
  · have h := of_decide_eq_true h
    rw [List.length_map] at h
    have hq2 : q < l1.length := by omega
    have hidx : IntKind.i64.wrap ((q : Int) + 1) = ((q + 1 : Nat) : Int) := idx_next hq2 (by omega)
    have htk : (l1.take q).map (·.take 20) ++ [(at' l1 (q : Int)).take 20] = (l1.take (q + 1)).map (·.take 20) := by rw [at_nat l1 q hq2, List.take_succ_eq_append_getElem hq2, List.map_append]; rfl
    have hln : ((l1.take q).map (·.take 20)).length ≤ 10 := by rw [List.length_map, List.length_take]; omega
    repeat (first | refine js rfl ?_ | (refine jdraw ?_ ?_; · kernel_rfl) | refine jbu rfl rfl rfl rfl ?_ | refine jo rfl rfl (index_at rfl rfl rfl rfl rfl rfl rfl rfl (Int.natCast_nonneg q) h) rfl rfl ?_)
    generalize at' l1 (q : Int) = x at *
    have hm4 : (if (20 : Int) < ((ByteArray.size ⟨x.toArray⟩ : Nat) : Int) then (20 : Int) else ((ByteArray.size ⟨x.toArray⟩ : Nat) : Int)) = ((min 20 x.length : Nat) : Int) := by
      rw [show ByteArray.size ⟨x.toArray⟩ = x.length from rfl]; split <;> omega
    rw [hm4]
    refine jo rfl rfl (cutH (min 20 x.length) rfl rfl rfl rfl rfl (by omega)) rfl rfl ?_
    rw [cut_eq x 20]
    repeat (first | refine js rfl ?_ | (refine jdraw ?_ ?_; · kernel_rfl) | refine jbu rfl rfl rfl rfl ?_)
    refine jo rfl rfl (append_enc (enc := sv) (l := (l1.take q).map (·.take 20)) (x.take 20) rfl rfl rfl rfl rfl rfl rfl rfl rfl rfl (fun x => ⟨rfl, rfl⟩) rfl (by omega) rfl rfl) rfl rfl ?_
    rw [htk]
    repeat (first | refine js rfl ?_ | (refine jdraw ?_ ?_; · kernel_rfl) | refine jbu rfl rfl rfl rfl ?_)
    refine jnextI (q + 1) hq2 ?_ rfl (by omega)
    show some _ = some _
    rw [hidx]
  · have h := of_decide_eq_false h
    rw [List.length_map] at h
    have : q = l1.length := by omega
    subst this
    rw [List.take_length]
    refine jpub 11 rfl rfl rfl rfl ?_
    have hn1 : (l1.map (·.take 20)).length ≤ 10 := by rw [List.length_map]; exact hll
    have hn2 : ∀ l ∈ l1.map (·.take 20), l.length ≤ 1000000 := fun l hl => by
      obtain ⟨x, _, rfl⟩ := List.mem_map.1 hl
      rw [List.length_take]; omega
    generalize l1.map (·.take 20) = nm at *
    generalize l1.length = n1 at *
    repeat (first | refine js rfl ?_ | refine jbu rfl rfl rfl rfl ?_)
    refine jdraw ?_ ?_; · kernel_rfl
    repeat (first | refine js rfl ?_ | (refine jdraw ?_ ?_; · kernel_rfl) | refine jbu rfl rfl rfl rfl ?_)
    refine jo rfl rfl (cut_take 170 rfl rfl rfl m2 rfl rfl rfl (fun _ => ⟨rfl, rfl⟩)) rfl rfl ?_
    repeat (first | refine js rfl ?_ | (refine jdraw ?_ ?_; · kernel_rfl) | refine jbu rfl rfl rfl rfl ?_)
    refine jo rfl rfl (cut_take 170 rfl rfl rfl m3 rfl rfl rfl (fun _ => ⟨rfl, rfl⟩)) rfl rfl ?_
    have hw1 : (ws.take 170).length ≤ 170 := by rw [List.length_take]; omega
    have ht1 : (ts.take 170).length ≤ 170 := by rw [List.length_take]; omega
    generalize ws.take 170 = w1 at *
    generalize ts.take 170 = t1 at *
    repeat (first | refine js rfl ?_ | (refine jdraw ?_ ?_; · kernel_rfl) | refine jbu rfl rfl rfl rfl ?_)
    have h2 := rparse_ok t (by omega)
    obtain ⟨st, b, h3, hb⟩ := rstarts_any t nm (by omega) (by omega) hn2
    have h4 := halive_ok g
    have h5 := rsame_ok wd0 wd0_sz (by decide)
    unfold encWd wCells ivs at h5
    replace h5 := h5.argw (args' := [_, .agg [.slf [], .slf [], .slf [], iv 0, .slf [], .slf [], .slf []]]) (fun c us h => relL_cons (fun u h => h) (relL_cons (agg_weak (relL_cons (fun u h => sl_weak h) (relL_cons (fun u h => sl_weak h) (relL_cons (fun u h => sl_weak h) (relL_cons (fun u h => h) (relL_cons (fun u h => sl_weak h) (relL_cons (fun u h => sl_weak h) (relL_cons (fun u h => sl_weak h) (fun us h => h))))))))) (fun us h => h)) us h)
    by_cases hp : (rparse t).2.2 = 0
    · have hpp : (parseP t).2.2 = 0 := by rw [parse_eq]; exact hp
      obtain ⟨e1, e2⟩ := rst_eq hp nm
      have hu : ∀ x : Bs, whereP t x = rwhere t x := fun x => by rw [where_eq, hp]; rfl
      rcases first_bad (fun l => (rwhere t l).2) default nm with hall | ⟨k, k1, k2, k3⟩
      · have hbt : b = true := hb.2 hall
        subst hbt
        have h1 := snew_ok g t nm ⟨w1, t1⟩ d (by omega) (by omega) ⟨by simp only; omega, by simp only; omega⟩ hpp (e2.2 hall) (by
          have := parse_right hp
          unfold rightC at this
          rw [Bool.and_eq_true] at this
          have := of_decide_eq_true this.1
          rw [parse_eq]; omega)
        rw [e1, parse_eq] at h1
        have h6 := rmright_ok ⟨w1, t1⟩ (by simp only; omega) (by simp only; omega)
        have h7 := rworld_ok t nm ⟨w1, t1⟩ d (by omega) (by omega) hn2 hall
        have n1 := newW_mem hp (rst t nm) ⟨w1, t1⟩ d
        have n2 := newW_size hp (rst t nm) ⟨w1, t1⟩ d
        have n3 := newW_good hp nm ⟨w1, t1⟩ d
        have n4 := newOk_r hp nm ⟨w1, t1⟩ d
        have n5 : (newOk (rparse t).1 (rst t nm) ⟨w1, t1⟩ d).evs = [] := rfl
        have hl : (rst t nm).length = nm.length := by unfold rst; rw [List.length_map]
        rw [hl] at n2
        generalize newOk (rparse t).1 (rst t nm) ⟨w1, t1⟩ d = wo at *
        generalize newW (rparse t).1 (rst t nm) ⟨w1, t1⟩ d = rw at *
        obtain ⟨wr, er⟩ := rw
        generalize rparse t = r at *
        obtain ⟨r1, r2, r3⟩ := r
        simp only at h1 h2 hp
        subst hp
        unfold gls at h1 h4
        clear e1 e2 hu
        unfold encWd wCells encIs encMem mCells ivs at *
        refine jb [0,1,2,3] h1 rfl rfl rfl ⟨rfl, rfl, rfl, rfl, rfl, rfl⟩ rfl rfl rfl rfl ?_
        repeat (first | refine js rfl ?_ | (refine jdraw ?_ ?_; · kernel_rfl) | refine jbu rfl rfl rfl rfl ?_ | refine jv h2 rfl rfl rfl rfl rfl ?_ | refine jv h3 rfl rfl rfl rfl rfl ?_)
        have hs5 : ∀ x : Int, (x == x) = true := fun x => by simp
        cases hm : mRight ⟨w1, t1⟩ with
        | false =>
          obtain ⟨rfl, rfl⟩ := Prod.mk.inj (n1 hm)
          rw [hm] at h6
          repeat (first | refine js rfl ?_ | (refine jdraw ?_ ?_; · kernel_rfl) | refine jbu rfl rfl rfl rfl ?_ | refine jv h6 rfl rfl rfl rfl rfl ?_)
          refine jb [0,1,2,3] h4 rfl rfl rfl ⟨rfl, rfl, rfl, rfl, rfl, rfl⟩ rfl rfl rfl rfl ?_
          repeat (first | refine js rfl ?_ | (refine jdraw ?_ ?_; · kernel_rfl) | refine jbu rfl rfl rfl rfl ?_ | refine jv h5 rfl rfl rfl rfl rfl ?_)
          exact jr rfl rfl rfl rfl
        | true =>
          rw [hm] at h6
          repeat (first | refine js rfl ?_ | (refine jdraw ?_ ?_; · kernel_rfl) | refine jbu rfl rfl rfl rfl ?_ | refine jv h6 rfl rfl rfl rfl rfl ?_)
          by_cases c1 : nm.length < 1
          · obtain ⟨rfl, rfl⟩ := Prod.mk.inj (n2 hm (by
              rw [show inn (nm.length : Int) 1 8 = false from by
                cases hi : inn (nm.length : Int) 1 8 with
                | false => rfl
                | true => have := (inn_iff.1 hi).1; omega]; rfl))
            rw [show decide ((((nm.map sv).length : Nat) : Int) < 1) = true from decide_eq_true (by rw [List.length_map]; omega)]
            repeat (first | refine js rfl ?_ | (refine jdraw ?_ ?_; · kernel_rfl) | refine jbu rfl rfl rfl rfl ?_)
            refine jb [0,1,2,3] h4 rfl rfl rfl ⟨rfl, rfl, rfl, rfl, rfl, rfl⟩ rfl rfl rfl rfl ?_
            repeat (first | refine js rfl ?_ | (refine jdraw ?_ ?_; · kernel_rfl) | refine jbu rfl rfl rfl rfl ?_ | refine jv h5 rfl rfl rfl rfl rfl ?_)
            exact jr rfl rfl rfl rfl
          rw [show decide ((((nm.map sv).length : Nat) : Int) < 1) = false from decide_eq_false (by rw [List.length_map]; omega)]
          repeat (first | refine js rfl ?_ | (refine jdraw ?_ ?_; · kernel_rfl) | refine jbu rfl rfl rfl rfl ?_)
          by_cases c2 : nm.length > 8
          · obtain ⟨rfl, rfl⟩ := Prod.mk.inj (n2 hm (by
              rw [show inn (nm.length : Int) 1 8 = false from by
                cases hi : inn (nm.length : Int) 1 8 with
                | false => rfl
                | true => have := (inn_iff.1 hi).2; omega]; rfl))
            rw [show decide ((((nm.map sv).length : Nat) : Int) > 8) = true from decide_eq_true (by rw [List.length_map]; omega)]
            repeat (first | refine js rfl ?_ | (refine jdraw ?_ ?_; · kernel_rfl) | refine jbu rfl rfl rfl rfl ?_)
            refine jb [0,1,2,3] h4 rfl rfl rfl ⟨rfl, rfl, rfl, rfl, rfl, rfl⟩ rfl rfl rfl rfl ?_
            repeat (first | refine js rfl ?_ | (refine jdraw ?_ ?_; · kernel_rfl) | refine jbu rfl rfl rfl rfl ?_ | refine jv h5 rfl rfl rfl rfl rfl ?_)
            exact jr rfl rfl rfl rfl
          rw [show decide ((((nm.map sv).length : Nat) : Int) > 8) = false from decide_eq_false (by rw [List.length_map]; omega)]
          repeat (first | refine js rfl ?_ | (refine jdraw ?_ ?_; · kernel_rfl) | refine jbu rfl rfl rfl rfl ?_)
          have hin : inn (nm.length : Int) 1 8 = true := inn_iff.2 ⟨by omega, by omega⟩
          by_cases c3 : d < 0
          · obtain ⟨rfl, rfl⟩ := Prod.mk.inj (n2 hm (by
              rw [show inn d 0 8 = false from by
                cases hi : inn d 0 8 with
                | false => rfl
                | true => have := (inn_iff.1 hi).1; omega, Bool.and_false]))
            rw [show decide (d < 0) = true from decide_eq_true c3]
            repeat (first | refine js rfl ?_ | (refine jdraw ?_ ?_; · kernel_rfl) | refine jbu rfl rfl rfl rfl ?_)
            refine jb [0,1,2,3] h4 rfl rfl rfl ⟨rfl, rfl, rfl, rfl, rfl, rfl⟩ rfl rfl rfl rfl ?_
            repeat (first | refine js rfl ?_ | (refine jdraw ?_ ?_; · kernel_rfl) | refine jbu rfl rfl rfl rfl ?_ | refine jv h5 rfl rfl rfl rfl rfl ?_)
            exact jr rfl rfl rfl rfl
          rw [show decide (d < 0) = false from decide_eq_false c3]
          repeat (first | refine js rfl ?_ | (refine jdraw ?_ ?_; · kernel_rfl) | refine jbu rfl rfl rfl rfl ?_)
          by_cases c4 : d > 8
          · obtain ⟨rfl, rfl⟩ := Prod.mk.inj (n2 hm (by
              rw [show inn d 0 8 = false from by
                cases hi : inn d 0 8 with
                | false => rfl
                | true => have := (inn_iff.1 hi).2; omega, Bool.and_false]))
            rw [show decide (d > 8) = true from decide_eq_true c4]
            repeat (first | refine js rfl ?_ | (refine jdraw ?_ ?_; · kernel_rfl) | refine jbu rfl rfl rfl rfl ?_)
            refine jb [0,1,2,3] h4 rfl rfl rfl ⟨rfl, rfl, rfl, rfl, rfl, rfl⟩ rfl rfl rfl rfl ?_
            repeat (first | refine js rfl ?_ | (refine jdraw ?_ ?_; · kernel_rfl) | refine jbu rfl rfl rfl rfl ?_ | refine jv h5 rfl rfl rfl rfl rfl ?_)
            exact jr rfl rfl rfl rfl
          rw [show decide (d > 8) = false from decide_eq_false c4]
          have hid : inn d 0 8 = true := inn_iff.2 ⟨by omega, by omega⟩
          obtain ⟨rfl, rfl⟩ := Prod.mk.inj (n3 hm hin hid)
          have n4 := n4 hm hin hid
          have h8 := rsame_ok wr n4.size (by rw [n5]; decide)
          clear n1 n2 n3 n4 n5
          unfold encWd wCells ivs at h8
          repeat (first | refine js rfl ?_ | refine jbu rfl rfl rfl rfl ?_)
          refine jdrawPT [(0, .m), (1, .p), (2, .p), (3, .p), (4, .p), (5, .p), (6, .r), (7, .p), (8, .p), (9, .r), (10, .p), (11, .s), (12, .s), (13, .p), (14, .p)] rfl (by kernel_rfl) ?_
          refine jb [0,1,2,3] h4 rfl rfl rfl ⟨rfl, rfl, rfl, rfl, rfl, rfl⟩ rfl rfl rfl rfl ?_
          repeat (first | refine js rfl ?_ | (refine jdraw ?_ ?_; · kernel_rfl) | refine jbu rfl rfl rfl rfl ?_ | refine jv h7 rfl rfl rfl rfl rfl ?_ | refine jv h8 rfl rfl rfl rfl rfl ?_)
          exact jr rfl rfl rfl rfl
      · have hbf : b = false := by
          cases b with
          | false => rfl
          | true => exact absurd (hb.1 rfl _ (at_mem k1)) k3
        subst hbf
        have h1 := snew_miss g t0 f0 t nm ⟨w1, t1⟩ d k (by omega) (by omega) hpp k1 (fun p hq => by rw [hu]; exact k2 p hq) (by rw [hu]; exact k3)
        generalize rparse t = r at *
        obtain ⟨r1, r2, r3⟩ := r
        simp only at h1 h2 hp
        subst hp
        unfold gls at h1 h4
        unfold eF at h1
        clear e1 e2 hu k2 k3
        unfold encWd wCells encIs encMem mCells ivs at *
        refine jb [0,1,2,3,4] h1 rfl rfl rfl ⟨rfl, rfl, rfl, rfl, rfl, rfl⟩ rfl rfl rfl rfl ?_
        repeat (first | refine js rfl ?_ | (refine jdraw ?_ ?_; · kernel_rfl) | refine jbu rfl rfl rfl rfl ?_ | refine jv h2 rfl rfl rfl rfl rfl ?_ | refine jv h3 rfl rfl rfl rfl rfl ?_)
        refine jb [0,1,2,3] h4 rfl rfl rfl ⟨rfl, rfl, rfl, rfl, rfl, rfl⟩ rfl rfl rfl rfl ?_
        repeat (first | refine js rfl ?_ | (refine jdraw ?_ ?_; · kernel_rfl) | refine jbu rfl rfl rfl rfl ?_ | refine jv h5 rfl rfl rfl rfl rfl ?_)
        exact jr rfl rfl rfl rfl
    · have h1 := snew_bad g t nm ⟨w1, t1⟩ d (by omega) (by rw [parse_eq]; exact hp)
      rw [parse_eq] at h1
      have hd : ((rparse t).2.2 != 0) = true := by rw [bne_iff_ne]; exact hp
      generalize rparse t = r at *
      obtain ⟨r1, r2, r3⟩ := r
      simp only at h1 h2 hd
      unfold gls at h1 h4
      unfold encWd wCells encIs encMem mCells ivs at *
      refine jb [0,1,2,3] h1 rfl rfl rfl ⟨rfl, rfl, rfl, rfl, rfl, rfl⟩ rfl rfl rfl rfl ?_
      repeat (first | refine js rfl ?_ | (refine jdraw ?_ ?_; · kernel_rfl) | refine jbu rfl rfl rfl rfl ?_ | refine jv h2 rfl rfl rfl rfl rfl ?_ | refine jv h3 rfl rfl rfl rfl rfl ?_)
      rw [hd]
      repeat (first | refine js rfl ?_ | (refine jdraw ?_ ?_; · kernel_rfl) | refine jbu rfl rfl rfl rfl ?_)
      rw [hd]
      repeat (first | refine js rfl ?_ | (refine jdraw ?_ ?_; · kernel_rfl) | refine jbu rfl rfl rfl rfl ?_)
      refine jb [0,1,2,3] h4 rfl rfl rfl ⟨rfl, rfl, rfl, rfl, rfl, rfl⟩ rfl rfl rfl rfl ?_
      repeat (first | refine js rfl ?_ | (refine jdraw ?_ ?_; · kernel_rfl) | refine jbu rfl rfl rfl rfl ?_)
      rw [show (r3 == r3) = true from by simp]
      repeat (first | refine js rfl ?_ | (refine jdraw ?_ ?_; · kernel_rfl) | refine jbu rfl rfl rfl rfl ?_ | refine jv h5 rfl rfl rfl rfl rfl ?_)
      exact jr rfl rfl rfl rfl
end Go.AL
end
section
set_option maxRecDepth 100000
namespace Go.Proofs.YtplofnhnhfiokaaGreatDoor
open Go Go.AL Go.ChangeShapes Go.WideShapes Go.ChangeAt Go.RowKit
theorem own : ownKnob Tryz.prog.godebug = none := by kernel_rfl
theorem kids : Kids Tryz.prog (· < Tryz.prog.types.size) := kids_rows (by kernel_rfl) (by kernel_rfl)
theorem full : ∀ t e, t < Tryz.prog.types.size → Tryz.prog.underlying t = some (.slice e) → 0 < Tryz.prog.cellsOf e := slices_full_of _ (by kernel_rfl)
theorem g_pow : Tryz.prog.globalNamed "internal/strconv.uint64pow10" = some 1 := by kernel_rfl
theorem g_syn : Tryz.prog.globalNamed "strconv.ErrSyntax" = some 3 := by kernel_rfl
theorem g_ran : Tryz.prog.globalNamed "strconv.ErrRange" = some 4 := by kernel_rfl
def glx (g : Gl) : List (Nat × Obj) := [(1, .cells powV g.t1 g.f1), (3, .cells #[.iface g.e2 g.p2] g.t2 g.f2), (4, .cells #[.iface g.e3 g.p3] g.t3 g.f3), (2, .cells #[.int .i64 g.m] g.t0 g.f0)]
theorem var_heap {W : World} {n : String} {g : Nat} {cs : Array Value} (hg : Tryz.prog.globalNamed n = some g) (hv : W.var? Tryz.prog n = some cs) : ∃ t f, W.heap[g]? = some (.cells cs t f) := by
  unfold World.var? at hv
  rw [hg] at hv
  simp only [Option.bind_some] at hv
  split at hv
  · rename_i c t f h
    injection hv with hv
    exact ⟨t, f, by rw [h, hv]⟩
  · cases hv
theorem iface_head {W : World} {n nm : String} {x : DataW Unit} {r : List (String × DataW Unit)} {g : Nat} {t : TypeId} {ms : Array (String × TypeId)} (h : laidMet Tryz.prog ((n, .iface nm x) :: r) W)
    (hg : Tryz.prog.globalNamed n = some g) (ht : (Tryz.prog.globals[g]?).map (·.type) = some t) (hu : Tryz.prog.underlying t = some (.interface ms)) : ∃ e p, W.var? Tryz.prog n = some #[.iface e p] := by
  obtain ⟨ps, ⟨g0, t0, cs0, f0, p0, q0, hg0, ht0, hv0, hd0, _, _⟩, _, _⟩ := h
  obtain rfl := Option.some.inj (hg.symm.trans hg0)
  obtain rfl := Option.some.inj (ht.symm.trans ht0)
  obtain ⟨_, u, v, e, _, _⟩ := iface_of_trod hu hd0
  refine ⟨u, v, ?_⟩
  rw [hv0]
  congr 1
  apply Array.ext'
  simpa using e
def laidL : List (String × DataW Unit) := [("math/bits.deBruijn32tab", Rows.laid_math_bits_deBruijn32tab), ("math/bits.deBruijn64tab", Rows.laid_math_bits_deBruijn64tab), ("internal/strconv.uint64pow10", Rows.laid_internal_strconv_uint64pow10), ("unicode/utf8.acceptRanges", Rows.laid_unicode_utf8_acceptRanges), ("errors.errorType", Rows.laid_errors_errorType), ("strconv.ErrRange", Rows.laid_strconv_ErrRange), ("strconv.ErrSyntax", Rows.laid_strconv_ErrSyntax), ("unicode/utf8.first", Rows.laid_unicode_utf8_first)]
def plainL : List (String × DataW Unit) := [("math/bits.deBruijn32tab", Rows.laid_math_bits_deBruijn32tab), ("math/bits.deBruijn64tab", Rows.laid_math_bits_deBruijn64tab), ("internal/strconv.uint64pow10", Rows.laid_internal_strconv_uint64pow10), ("unicode/utf8.acceptRanges", Rows.laid_unicode_utf8_acceptRanges), ("strconv.ErrRange", Rows.laid_strconv_ErrRange), ("strconv.ErrSyntax", Rows.laid_strconv_ErrSyntax), ("unicode/utf8.first", Rows.laid_unicode_utf8_first)]
theorem plain_eq : (laidL.filter fun x => x.2.handleName?.isNone) = plainL := by kernel_rfl
theorem laid_plain {W : World} (h : laidMetH Tryz.prog laidL W) : laidMet Tryz.prog plainL W := by
  have h1 := (laidMetH_iff.1 h).1
  rwa [plain_eq] at h1
noncomputable def errW (os : Os) : World :=
  let w0 := World.holding Tryz.prog os ⟨#[], #[], []⟩
  { w0 with heap := w0.heap.modify 0 fun
      | .cells _ t frozen => .cells #[.iface 206 (.agg #[typeHandle Tryz.prog 87])] t frozen
      | o => o }
noncomputable def laidW (os : Os) : World := (errW os).layVars Tryz.prog plainL
theorem laidW_os (os : Os) : (laidW os).os = os := World.layVars_os _ _ _
theorem laidW_met (os : Os) (args : Array Value) : laidMetH Tryz.prog laidL ((laidW os).forCall (fun _ _ => 0) ⟨#[], args, []⟩).memory := by
  refine laidMetH_of_parts ?_ (by kernel_rfl)
  rw [plain_eq]
  have e1 : (plainL.filter fun x => (plainL.map (·.1)).contains x.1) = plainL := List.filter_eq_self.2 fun x hx => List.contains_iff_mem.2 (List.mem_map.2 ⟨x, hx, rfl⟩)
  have e2 : (plainL.filter fun x => !(plainL.map (·.1)).contains x.1) = [] := List.filter_eq_nil_iff.2 fun x hx => by rw [List.contains_iff_mem.2 (List.mem_map.2 ⟨x, hx, rfl⟩)]; simp
  have h : laidMet Tryz.prog plainL (laidW os) := laidMet_layVars (w0 := errW os) (plainL.map (·.1)) [] (by rw [e1]; rfl) (by rw [e1]; kernel_rfl) (by rw [e1]; kernel_rfl) (by rw [e2]; exact LaidIn.none)
  exact h.of_heap (by simp [World.memory, World.forCall, Input.heap])
theorem gl_exists {W : World} (hL : laidMetH Tryz.prog laidL W) (hS : W.ShapedOpen Tryz.prog) : ∃ g : Gl, ∀ p ∈ glx g, W.heap[p.1]? = some p.2 ∧ ∀ d, p.2 ≠ .deferred d := by
  replace hL := laid_plain hL
  have h3 := hL.tail.tail
  have h5 := hL.tail.tail.tail.tail
  have h6 := hL.tail.tail.tail.tail.tail
  obtain ⟨t1, f1, a1⟩ := var_heap g_pow (Lib.tabIs_of_head (k := .u64) (zs := Lib.pow10Tab) (n := 20) (t := 278) (e := 252) g_pow (by kernel_rfl) (by kernel_rfl) (by kernel_rfl) (by kernel_rfl) (by kernel_rfl) h3)
  obtain ⟨e3, p3, b3⟩ := iface_head (t := 87) h5 g_ran (by kernel_rfl) Tryz.underlying87
  obtain ⟨e2, p2, b2⟩ := iface_head (t := 87) h6 g_syn (by kernel_rfl) Tryz.underlying87
  obtain ⟨t3, f3, a3⟩ := var_heap g_ran b3
  obtain ⟨t2, f2, a2⟩ := var_heap g_syn b2
  obtain ⟨m, a0⟩ := shaped_int (g := 2) (t := 3) (zero := #[.int .i64 0]) (k := .i64) hS (of_decide_eq_true (by kernel_rfl)) (by kernel_rfl) rfl (by kernel_rfl) (by kernel_rfl) (by kernel_rfl)
  refine ⟨⟨t1, t2, t3, f1, f2, f3, e2, e3, p2, p3, 3, (0, 0), m⟩, fun p hp => ?_⟩
  simp only [glx, List.mem_cons, List.mem_nil_iff, or_false] at hp
  rcases hp with rfl | rfl | rfl | rfl
  · exact ⟨a1, fun d h => by cases h⟩
  · exact ⟨a2, fun d h => by cases h⟩
  · exact ⟨a3, fun d h => by cases h⟩
  · exact ⟨a0, fun d h => by cases h⟩
theorem err_named : Tryz.prog.globalNamed "errors.errorType" = some 0 := by kernel_rfl
theorem rt_cut : (Tryz.prog.cutTypes.find? (·.1 == "internal/reflectlite.rtype")).map (·.2) = some 206 := by kernel_rfl
theorem err_row : ((List.range Tryz.prog.types.size).filter fun t => Tryz.prog.rowNamed t [101, 114, 114, 111, 114]) = [87] := by kernel_rfl
theorem handle_of_laid {W : World} (h : laidMetH Tryz.prog laidL W) : W.var? Tryz.prog "errors.errorType" = some #[eVal] := by
  obtain ⟨name, u, ty, e1, e2, e3, e4, e5⟩ := (laidMetH_iff.1 h).2 ("errors.errorType", Rows.laid_errors_errorType) (by rw [show (laidL.filter fun x => x.2.handleName?.isSome) = [("errors.errorType", Rows.laid_errors_errorType)] by kernel_rfl]; exact List.mem_singleton.2 rfl)
  have en : name = [101, 114, 114, 111, 114] := (Option.some.inj e1).symm
  subst en
  obtain rfl := Option.some.inj (rt_cut.symm.trans e2)
  have hm : ty ∈ (List.range Tryz.prog.types.size).filter fun t => Tryz.prog.rowNamed t [101, 114, 114, 111, 114] := List.mem_filter.2 ⟨List.mem_range.2 e3, e4⟩
  rw [err_row] at hm
  obtain rfl := List.mem_singleton.1 hm
  exact e5
noncomputable def glx2 (g : Gl) (t0 : TypeId) (f0 : Nat × Nat) : List (Nat × Obj) := glx g ++ [(0, .cells #[eVal] t0 f0)]
theorem gl2_exists {W : World} (hL : laidMetH Tryz.prog laidL W) (hS : W.ShapedOpen Tryz.prog) : ∃ (g : Gl) (t0 : TypeId) (f0 : Nat × Nat), ∀ p ∈ glx2 g t0 f0, W.heap[p.1]? = some p.2 ∧ ∀ d, p.2 ≠ .deferred d := by
  obtain ⟨g, hg⟩ := gl_exists hL hS
  obtain ⟨t0, f0, a0⟩ := var_heap err_named (handle_of_laid hL)
  refine ⟨g, t0, f0, fun p hp => ?_⟩
  rcases List.mem_append.1 hp with hp | hp
  · exact hg p hp
  · obtain rfl := List.mem_singleton.1 hp
    exact ⟨a0, fun d h => by cases h⟩
end Go.Proofs.YtplofnhnhfiokaaGreatDoor
end
section
set_option maxRecDepth 100000
namespace Go.Proofs.YtplofnhnhfiokaaGreatDoor
open Go Go.AL Go.ChangeShapes Go.WideShapes Go.ChangeAt Go.RowKit
section
variable {H : Type} {enc : TypeId × Value → H} {W : World} {v : Value} {d : DataW H} {p : List MemPlace}
theorem open_list {α : Type} {encX : α → AVal} {t e : TypeId} {r r' : TyRow} (f : List Int → α) (ht : tfind tyTab.tab t = some r') (hd' : r'.d = .slice e) (he : tfind tyTab.tab e = some r) (hi : allInt tyTab.tab Tryz.prog.stoodInHeld 100 e = true) (hz : r.size ≠ 0) (h1 : aggB r.d = false → r.size = 1)
    (hf : ∀ ns : List Int, ns.length = r.size → encX (f ns) = rowA (aggB r.d) ns) (hv : ∃ a l c, v = .slice a l c) (h : DataW.Trod enc Tryz.prog W 0 (fun _ => true) true t v d p) : ∃ m : List α, m.length ≤ maxLen ∧ Rel (out W) (.sl (m.map encX)) v := by
  obtain ⟨a, l, c, rfl⟩ := hv
  obtain ⟨n, hn⟩ := h
  obtain ⟨nss, g1, g2, g3⟩ := open_rows (T := tyTab) (st := Tryz.prog.stoodInHeld) (n := 100) ht hd' he hi hz h1 hn
  refine ⟨nss.map f, by simpa using g2, ?_⟩
  have : (nss.map f).map encX = nss.map (rowA (aggB r.d)) := by
    rw [List.map_map]
    exact List.map_congr_left fun ns hns => hf ns (g1 ns hns)
  rw [this]
  exact g3
theorem one_ints : ∀ {ns : List Int}, ns.length = 1 → ∃ a, ns = [a]
  | [a], _ => ⟨a, rfl⟩
theorem open_ints (hv : ∃ a l c, v = .slice a l c) (h : DataW.Trod enc Tryz.prog W 0 (fun _ => true) true 23 v d p) : ∃ m : List Int, m.length ≤ maxLen ∧ Rel (out W) (ivs m) v :=
  open_list (fun ns => ns.headD 0) rfl rfl rfl (by kernel_rfl) (by decide) (fun _ => rfl) (fun ns hn => by obtain ⟨a, rfl⟩ := one_ints hn; rfl) hv h
theorem open_int (hv : ∃ n, v = .int .i64 n) (h : DataW.Trod enc Tryz.prog W 0 (fun _ => true) true 3 v d p) : ∃ n : Int, True ∧ Rel (out W) (.v (.int .i64 n)) v := by
  obtain ⟨n, rfl⟩ := hv
  exact ⟨n, trivial, rfl⟩
end
end Go.Proofs.YtplofnhnhfiokaaGreatDoor
end
section
set_option maxRecDepth 100000
namespace Go.AL
open Go Go.Deep
section
variable {P : Program} [T : TyTab P] {H : Type} {enc : TypeId × Value → H} {w : World} {base : Nat} {sp : Nat → Bool} {hd : Bool}
theorem open_texts {t e : TypeId} {r r' : TyRow} {fuel : Nat} {u : Value} {x : DataW H × List MemPlace} (ht : tfind T.tab t = some r') (hd' : r'.d = .slice e) (he : tfind T.tab e = some r) (hi : r.d = .string) (hz : r.size = 1)
    (h : DataW.trod enc P w 0 sp hd fuel t [u] = some x) :
    ∃ nss : List Bs, nss.length ≤ maxLen ∧ Rel (out w) (.sl (nss.map sv)) u := by
  have hu : P.underlying t = some (.slice e) := by rw [ty_und ht, hd']
  rcases open_slice hu h with ⟨h0, _⟩ | ⟨a, len, cap, m, k, D, Pl, hcs, _, hl, hm, hmm, _, hx⟩
  · injection h0 with h0
    subst h0
    exact ⟨[], by simp, none, 0, 0, rfl, Nat.le_refl _, fun h => absurd rfl h, trivial⟩
  · injection hcs with hcs
    subst hcs
    rw [ty_cells he] at hx
    have hlm : len ≤ m := by rw [hmm]; split <;> omega
    have hue : P.underlying e = some .string := by rw [ty_und he, hi]
    rw [hz] at hx
    have each : ∀ i, i < len → ∃ s : Bs, w.cells? 0 (a.add (i * 1)) 1 = some [S s] := fun i hi' => by
      obtain ⟨cs', g1, g2⟩ := hx i (by omega)
      obtain ⟨s, rfl, _⟩ := DataW.trod_string hue g2
      exact ⟨s.data.toList, g1⟩
    obtain ⟨N, hN⟩ := choose_lt (α := Bs) (p := fun i s => w.cells? 0 (a.add (i * 1)) 1 = some [S s]) each
    have hlen : ((List.range len).map N).length = len := by simp
    have one : ∀ i, i < len → w.cell? ((a.add (i * 1)).add 0) = some (S (N i)) := fun i hi' => by
      obtain ⟨_, _, g3⟩ := World.cells?_some (hN i hi')
      exact g3 0 (by omega)
    refine ⟨(List.range len).map N, by rw [hlen]; omega, some a, cap, 1, by simp, by simpa using hl, fun hne => ?_, ?_⟩
    · have hpos : 0 < len := by
        rcases Nat.eq_zero_or_pos len with h0 | h0
        · subst h0; simp at hne
        · exact h0
      have g4 := one 0 hpos
      have e0 : (a.add (0 * 1)).add 0 = a := by simp [Addr.add]
      rw [e0] at g4
      have hs := addr_spot g4
      refine ⟨a.block, a.off, by cases a; simp_all, id, ?_⟩
      unfold World.cell? at g4
      rw [hs] at g4
      by_cases hlt : a.block < w.heap.size
      · exact hlt
      · rw [Array.getElem?_eq_none (by omega)] at g4; simp at g4
    · refine RelR.of_get fun i y hy => ?_
      have hi' : i < len := by simpa using (List.getElem?_eq_some_iff.1 hy).1
      simp only [List.getElem?_map, List.getElem?_range hi', Option.map_some, Option.some.injEq] at hy
      subst hy
      have g4 := one i hi'
      have hs : a.spot = none := by
        have p4 := one 0 (by omega)
        have e0 : (a.add (0 * 1)).add 0 = a := by simp [Addr.add]
        rw [e0] at p4; exact addr_spot p4
      have hadd : ∀ j, a.add j = ⟨a.block, a.off + j, none⟩ := fun j => by
        unfold Addr.add; split
        · rename_i hj; subst hj; cases a; simp_all
        · rfl
      refine ⟨S (N i), rfl, rfl, fun q hq => ?_⟩
      have : q = 0 := by omega
      subst this
      rw [add_add, hadd] at g4
      simp only [Nat.zero_add]
      exact g4
end
end Go.AL
namespace Go.Proofs.YtplofnhnhfiokaaGreatDoor
open Go Go.AL Go.ChangeShapes Go.WideShapes Go.ChangeAt Go.RowKit
section
variable {H : Type} {enc : TypeId × Value → H} {W : World} {v : Value} {d : DataW H} {p : List MemPlace}
theorem open_strings (hv : ∃ a l c, v = .slice a l c) (h : DataW.Trod enc Tryz.prog W 0 (fun _ => true) true 22 v d p) : ∃ m : List Bs, m.length ≤ maxLen ∧ Rel (out W) (.sl (m.map sv)) v := by
  obtain ⟨a, l, c, rfl⟩ := hv
  obtain ⟨n, hn⟩ := h
  exact open_texts (T := tyTab) rfl rfl rfl rfl rfl hn
end
end Go.Proofs.YtplofnhnhfiokaaGreatDoor
end
