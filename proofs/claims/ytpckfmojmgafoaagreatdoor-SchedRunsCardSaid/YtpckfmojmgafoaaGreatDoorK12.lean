/-
  Part 12 of the proof texts: the program logic over the model, then the contracts of the functions that the laws reach. No conditions.
-/
import Derived.Test.YtpckfmojmgafoaaGreatDoorK11
import Derived.Test.YtpckfmojmgafoaaGreatDoorRows
import Derived.JoinedOf
import Derived.JoinedAt
import Derived.RowKit3
import Derived.LaidMore
import Derived.Lib.LaidTab
import Derived.Stop.LaidErr
import Derived.Lay
import Derived.LaidSub
import Derived.LaidHandle
section
set_option linter.unusedVariables false
set_option linter.unusedSimpArgs false
set_option maxRecDepth 100000
namespace Go.AL
open Go Go.Proofs
theorem slf_one {x y : AVal} (h : ∀ (c : Ctx) u, Rel c x u → Rel c y u) (c : Ctx) (u : Value) (hr : Rel c (.slf [x]) u) : Rel c (.slf [y]) u := by
  obtain ⟨A, es, h1, h2, ⟨u0, r1, r2, r3⟩, _⟩ := hr
  exact ⟨A, es, h1, fun _ => h2 (by simp), ⟨u0, h _ _ r1, r2, r3⟩, trivial⟩
attribute [local irreducible] J

theorem rmright_ok (m : Mem) (hw : m.words.length ≤ 1000000) (ht : m.tags.length ≤ 1000000) : ACalls Tryz.prog 11 [encMem m] [] (one (bv (mRight m)) []) := by
  obtain ⟨ws, ts⟩ := m
  simp only at hw ht
  have f1 : decide (((ws.map iv).length : Int) < 1) = !decide (1 ≤ ws.length) := by rw [List.length_map]; exact dec_not (by omega)
  have f2 : decide (((ws.map iv).length : Int) > 160) = !decide (ws.length ≤ 160) := by rw [List.length_map]; exact dec_not (by omega)
  have f3 : (((ts.map iv).length : Int) != ((ws.map iv).length : Int)) = !decide (ts.length = ws.length) := by rw [List.length_map, List.length_map, int_bne]; congr 1; exact decide_eq_decide.2 (by omega)
  unfold encMem mCells ivs mRight
  simp only
  cases b1 : decide (1 ≤ ws.length) with
  | false =>
    rw [b1] at f1
    refine jcalls Tryz.func11 rfl (by kernel_rfl) Tryz.ntmps11 rfl rfl (fun w0 β0 ext hβ => ?_)
    repeat (first | refine js rfl ?_ | (refine jdraw ?_ ?_; · kernel_rfl) | refine jbu rfl rfl rfl rfl ?_)
    rw [f1]
    repeat (first | refine js rfl ?_ | (refine jdraw ?_ ?_; · kernel_rfl) | refine jbu rfl rfl rfl rfl ?_)
    exact jr rfl rfl rfl rfl
  | true =>
    rw [b1] at f1
    cases b2 : decide (ws.length ≤ 160) with
    | false =>
      rw [b2] at f2
      refine jcalls Tryz.func11 rfl (by kernel_rfl) Tryz.ntmps11 rfl rfl (fun w0 β0 ext hβ => ?_)
      repeat (first | refine js rfl ?_ | (refine jdraw ?_ ?_; · kernel_rfl) | refine jbu rfl rfl rfl rfl ?_)
      rw [f1]
      repeat (first | refine js rfl ?_ | (refine jdraw ?_ ?_; · kernel_rfl) | refine jbu rfl rfl rfl rfl ?_)
      rw [f2]
      repeat (first | refine js rfl ?_ | (refine jdraw ?_ ?_; · kernel_rfl) | refine jbu rfl rfl rfl rfl ?_)
      exact jr rfl rfl rfl rfl
    | true =>
      rw [b2] at f2
      cases b3 : decide (ts.length = ws.length) with
      | false =>
        rw [b3] at f3
        refine jcalls Tryz.func11 rfl (by kernel_rfl) Tryz.ntmps11 rfl rfl (fun w0 β0 ext hβ => ?_)
        repeat (first | refine js rfl ?_ | (refine jdraw ?_ ?_; · kernel_rfl) | refine jbu rfl rfl rfl rfl ?_)
        rw [f1]
        repeat (first | refine js rfl ?_ | (refine jdraw ?_ ?_; · kernel_rfl) | refine jbu rfl rfl rfl rfl ?_)
        rw [f2]
        repeat (first | refine js rfl ?_ | (refine jdraw ?_ ?_; · kernel_rfl) | refine jbu rfl rfl rfl rfl ?_)
        rw [f3]
        repeat (first | refine js rfl ?_ | (refine jdraw ?_ ?_; · kernel_rfl) | refine jbu rfl rfl rfl rfl ?_)
        exact jr rfl rfl rfl rfl
      | true =>
        rw [b3] at f3
        have hlen : ts.length = ws.length := of_decide_eq_true b3
        obtain ⟨hz1, hz2⟩ := zipAll (p := tagOk) hlen
        refine jcalls Tryz.func11 rfl (by kernel_rfl) Tryz.ntmps11 rfl rfl (fun w0 β0 ext hβ => ?_)
        repeat (first | refine js rfl ?_ | (refine jdraw ?_ ?_; · kernel_rfl) | refine jbu rfl rfl rfl rfl ?_)
        rw [f1]
        repeat (first | refine js rfl ?_ | (refine jdraw ?_ ?_; · kernel_rfl) | refine jbu rfl rfl rfl rfl ?_)
        rw [f2]
        repeat (first | refine js rfl ?_ | (refine jdraw ?_ ?_; · kernel_rfl) | refine jbu rfl rfl rfl rfl ?_)
        rw [f3]
        repeat (first | refine js rfl ?_ | (refine jdraw ?_ ?_; · kernel_rfl) | refine jbu rfl rfl rfl rfl ?_)
        refine jloopI (fun k : Nat => k ≤ ts.length ∧ ∀ q, q < k → tagOk (at' ts (q : Int)) (at' ws (q : Int)) = true) [1, 2, 25, 26, 27] (fun k => [.ptr 0 0, bv false, .sl (ts.map iv), .v (.int .i64 ((ts.map iv).length : Int)), .v (.int .i64 (k : Int))])
          (fun _ => [.box 25 [.sl (ws.map iv), .sl (ts.map iv)]]) (fun k => ts.length - k) 0 ⟨Nat.zero_le _, fun q h => absurd h (by omega)⟩ rfl rfl (fun k hk => ?_)
        obtain ⟨hk, hok⟩ := hk
        repeat (first | refine js rfl ?_ | (refine jdraw ?_ ?_; · kernel_rfl) | refine jbu rfl rfl rfl rfl ?_)
        refine jc rfl rfl rfl (fun h => ?_) (fun h => ?_)
        · have h := of_decide_eq_true h
          rw [List.length_map] at h
          have hk2 : k < ts.length := by omega
          have hkw : (k : Int) < ws.length := by omega
          have hidx : IntKind.i64.wrap ((k : Int) + 1) = ((k + 1 : Nat) : Int) := idx_next hk2 (by omega)
          have hno := hz2 k hk2
          have hnx : tagOk (at' ts (k : Int)) (at' ws (k : Int)) = true → ∀ q, q < k + 1 → tagOk (at' ts (q : Int)) (at' ws (q : Int)) = true := fun hb q hq => by
            by_cases e : q = k
            · subst e; exact hb
            · exact hok q (by omega)
          repeat (first | refine js rfl ?_ | (refine jdraw ?_ ?_; · kernel_rfl) | refine jbu rfl rfl rfl rfl ?_ | refine jo rfl rfl (index_at rfl rfl rfl rfl rfl rfl rfl rfl (Int.natCast_nonneg k) h) rfl rfl ?_)
          generalize hT : at' ts (k : Int) = T at *
          generalize hV : at' ws (k : Int) = V at *
          by_cases g1 : T < 0
          · rw [decide_eq_true g1]
            rw [hno (by simp [tagOk]; omega)]
            repeat (first | refine js rfl ?_ | (refine jdraw ?_ ?_; · kernel_rfl) | refine jbu rfl rfl rfl rfl ?_)
            exact jr rfl rfl rfl rfl
          · rw [decide_eq_false g1]
            repeat (first | refine js rfl ?_ | (refine jdraw ?_ ?_; · kernel_rfl) | refine jbu rfl rfl rfl rfl ?_)
            by_cases g2 : T > 2
            · rw [decide_eq_true g2]
              rw [hno (by simp [tagOk]; omega)]
              repeat (first | refine js rfl ?_ | (refine jdraw ?_ ?_; · kernel_rfl) | refine jbu rfl rfl rfl rfl ?_)
              exact jr rfl rfl rfl rfl
            · rw [decide_eq_false g2]
              repeat (first | refine js rfl ?_ | (refine jdraw ?_ ?_; · kernel_rfl) | refine jbu rfl rfl rfl rfl ?_)
              by_cases g3 : T = 0
              · subst g3
                repeat (first | refine js rfl ?_ | (refine jdraw ?_ ?_; · kernel_rfl) | refine jbu rfl rfl rfl rfl ?_ | refine jo rfl rfl (index_at rfl rfl rfl rfl rfl rfl rfl rfl (Int.natCast_nonneg k) hkw) rfl rfl ?_)
                rw [hV]
                by_cases g4 : V = 0
                · subst g4
                  repeat (first | refine js rfl ?_ | (refine jdraw ?_ ?_; · kernel_rfl) | refine jbu rfl rfl rfl rfl ?_)
                  refine jnextI (k + 1) ⟨by omega, hnx rfl⟩ ?_ rfl (by omega)
                  show some _ = some _
                  rw [hidx]
                · rw [show (V != 0) = true from by rw [bne_iff_ne]; exact g4]
                  rw [hno (by simp [tagOk, g4])]
                  repeat (first | refine js rfl ?_ | (refine jdraw ?_ ?_; · kernel_rfl) | refine jbu rfl rfl rfl rfl ?_)
                  exact jr rfl rfl rfl rfl
              · rw [show (T == 0) = false from by rw [beq_eq_false_iff_ne]; exact g3]
                repeat (first | refine js rfl ?_ | (refine jdraw ?_ ?_; · kernel_rfl) | refine jbu rfl rfl rfl rfl ?_)
                refine jnextI (k + 1) ⟨by omega, hnx (by simp [tagOk]; omega)⟩ ?_ rfl (by omega)
                show some _ = some _
                rw [hidx]
        · have h := of_decide_eq_false h
          rw [List.length_map] at h
          rw [hz1 fun q hq => hok q (by omega)]
          repeat (first | refine js rfl ?_ | (refine jdraw ?_ ?_; · kernel_rfl) | refine jbu rfl rfl rfl rfl ?_)
          exact jr rfl rfl rfl rfl
theorem rep_succ {α : Type} (n : Nat) (x : α) : List.replicate n x ++ [x] = List.replicate (n + 1) x := by rw [List.replicate_succ']
theorem rmnew_ok (n : Nat) (hn : n ≤ 1000) : ACalls Tryz.prog 40 [iv (n : Int)] [] (one (encMem ⟨List.replicate n 0, List.replicate n 0⟩) []) := by
  unfold encMem mCells ivs
  refine jcalls Tryz.func40 rfl (by kernel_rfl) Tryz.ntmps40 rfl rfl (fun w0 β0 ext hβ => ?_)
  repeat (first | refine jadB 1 1 3 1 rfl rfl rfl rfl ?_ | refine jadB 1 0 3 1 rfl rfl rfl rfl ?_ | refine js rfl ?_ | (refine jdraw ?_ ?_; · kernel_rfl) | refine jbu rfl rfl rfl rfl ?_)
  refine jloopI (fun q : Nat => q ≤ n) [0, 2, 3, 4] (fun q => [iv (n : Int), .ptr 0 0, .ptr 1 0, iv (q : Int)])
    (fun q => [.box 25 [.slf [], .slf []], .box 25 [.arr 3 (q + 1), .arr 2 (q + 1)], .arr (q + 1) 3 1 ((List.replicate q (0 : Int)).map iv), .arr (q + 1) 3 1 ((List.replicate q (0 : Int)).map iv)]) (fun q => n - q) 0 (Nat.zero_le _) rfl rfl (fun q hq => ?_)
  repeat (first | refine js rfl ?_ | (refine jdraw ?_ ?_; · kernel_rfl) | refine jbu rfl rfl rfl rfl ?_)
  by_cases h : q < n
  · rw [show decide ((q : Int) < (n : Int)) = true from decide_eq_true (by omega)]
    have hidx : IntKind.i64.wrap ((q : Int) + 1) = ((q + 1 : Nat) : Int) := by rw [wrap_id] <;> omega
    repeat (first | refine js rfl ?_ | (refine jdraw ?_ ?_; · kernel_rfl) | refine jbu rfl rfl rfl rfl ?_)
    refine jo rfl rfl (append_enc (enc := iv) (l := List.replicate q (0 : Int)) 0 rfl rfl rfl rfl rfl rfl rfl rfl rfl rfl (fun x => ⟨rfl, rfl⟩) rfl (by rw [List.length_replicate]; omega) rfl rfl) rfl rfl ?_
    repeat (first | refine js rfl ?_ | (refine jdraw ?_ ?_; · kernel_rfl) | refine jbu rfl rfl rfl rfl ?_)
    refine jo rfl rfl (append_enc (enc := iv) (l := List.replicate q (0 : Int)) 0 rfl rfl rfl rfl rfl rfl rfl rfl rfl rfl (fun x => ⟨rfl, rfl⟩) rfl (by rw [List.length_replicate]; omega) rfl rfl) rfl rfl ?_
    rw [rep_succ]
    repeat (first | refine js rfl ?_ | (refine jdraw ?_ ?_; · kernel_rfl) | refine jbu rfl rfl rfl rfl ?_)
    refine jnextI (q + 1) h ?_ rfl (by omega)
    show some _ = some _
    rw [hidx]
    rfl
  · have : q = n := by omega
    subst this
    rw [show decide ((q : Int) < (q : Int)) = false from decide_eq_false (by omega)]
    refine jc rfl rfl rfl (fun hf => absurd hf (by decide)) (fun _ => ?_)
    refine jpubB 1 0 3 rfl rfl rfl rfl rfl rfl rfl ?_
    refine jpubB 1 1 2 rfl rfl rfl rfl rfl rfl rfl ?_
    repeat (first | refine js rfl ?_ | (refine jdraw ?_ ?_; · kernel_rfl) | refine jbu rfl rfl rfl rfl ?_)
    exact jret [] true rfl rfl rfl ⟨rfl, rfl⟩
theorem sl_nil_buf (c : Ctx) (u : Value) (h : Rel c (.slf []) u) : Rel c (encBuf []) u := sl_weak h
theorem rtnew_ok (m : Mem) (n : Nat) (d : Int) (hn : n ≤ 1000) : ACalls Tryz.prog 70 [encMem m, iv (n : Int), iv d] [] (one (encTso ⟨m, d, List.replicate n []⟩) []) := by
  unfold encTso tCells encMem mCells ivs
  refine jcalls Tryz.func70 rfl (by kernel_rfl) Tryz.ntmps70 rfl rfl (fun w0 β0 ext hβ => ?_)
  repeat (first | refine jadB 2 3 135 1 rfl rfl rfl rfl ?_ | refine js rfl ?_ | (refine jdraw ?_ ?_; · kernel_rfl) | refine jbu rfl rfl rfl rfl ?_)
  refine jloopI (fun q : Nat => q ≤ n) [1, 3, 6, 7, 8] (fun q => [iv (n : Int), .ptr 0 0, .ptr 1 0, .ptr 2 0, iv (q : Int)])
    (fun q => [.box 25 [.sl (m.words.map iv), .sl (m.tags.map iv)], .box 29 [.slf [], .slf [], iv 0, .slf []], .box 29 [.sl (m.words.map iv), .sl (m.tags.map iv), iv d, .arr 3 (q + 1)], .arr (q + 1) 135 1 ((List.replicate q ([] : List Wput)).map encBuf)]) (fun q => n - q) 0 (Nat.zero_le _) rfl rfl (fun q hq => ?_)
  repeat (first | refine js rfl ?_ | (refine jdraw ?_ ?_; · kernel_rfl) | refine jbu rfl rfl rfl rfl ?_)
  by_cases h : q < n
  · rw [show decide ((q : Int) < (n : Int)) = true from decide_eq_true (by omega)]
    have hidx : IntKind.i64.wrap ((q : Int) + 1) = ((q + 1 : Nat) : Int) := by rw [wrap_id] <;> omega
    repeat (first | refine jow rfl rfl (buildB_dsem rfl) (slf_one sl_nil_buf) rfl rfl ?_ | refine js rfl ?_ | (refine jdraw ?_ ?_; · kernel_rfl) | refine jbu rfl rfl rfl rfl ?_)
    refine jo rfl rfl (append_enc (enc := encBuf) (l := List.replicate q ([] : List Wput)) [] rfl rfl rfl rfl rfl rfl rfl rfl rfl rfl (fun x => ⟨rfl, rfl⟩) rfl (by rw [List.length_replicate]; omega) rfl rfl) rfl rfl ?_
    rw [rep_succ]
    repeat (first | refine js rfl ?_ | (refine jdraw ?_ ?_; · kernel_rfl) | refine jbu rfl rfl rfl rfl ?_)
    refine jnextI (q + 1) h ?_ rfl (by omega)
    show some _ = some _
    rw [hidx]
    rfl
  · have : q = n := by omega
    subst this
    rw [show decide ((q : Int) < (q : Int)) = false from decide_eq_false (by omega)]
    refine jc rfl rfl rfl (fun hf => absurd hf (by decide)) (fun _ => ?_)
    refine jpubB 2 3 3 rfl rfl rfl rfl rfl rfl rfl ?_
    repeat (first | refine js rfl ?_ | (refine jdraw ?_ ?_; · kernel_rfl) | refine jbu rfl rfl rfl rfl ?_)
    exact jret [] true rfl rfl rfl ⟨rfl, rfl⟩
theorem rwnew_ok (code : List Ins) (st : List Int) (m : Mem) (d : Int) (hs : st.length ≤ 1000) : ACalls Tryz.prog 38 [encIs code, ivs st, encMem m, iv d] [] (one (encWd (newOk code st m d)) []) := by
  have h3 := rtnew_ok m st.length d hs
  have hlm : ((st.map iv).length : Int) = (st.length : Int) := by rw [List.length_map]
  have he : (st.map thrP).map encThr = st.map fun a => encThr (thrP a) := by rw [List.map_map]; rfl
  unfold newOk
  unfold encWd wCells encTso tCells encIs encMem mCells at *
  unfold ivs at *
  simp only
  rw [he]
  refine jcalls Tryz.func38 rfl (by kernel_rfl) Tryz.ntmps38 rfl rfl (fun w0 β0 ext hβ => ?_)
  repeat (first | refine js rfl ?_ | (refine jdraw ?_ ?_; · kernel_rfl) | refine jbu rfl rfl rfl rfl ?_)
  rw [hlm]
  repeat (first | refine jadB 2 5 87 13 rfl rfl rfl rfl ?_ | refine js rfl ?_ | (refine jdraw ?_ ?_; · kernel_rfl) | refine jbu rfl rfl rfl rfl ?_ | refine jv h3 rfl rfl rfl rfl rfl ?_)
  refine jloopI (fun q : Nat => q ≤ st.length) [8, 9, 19, 20, 21] (fun q => [.ptr 1 0, .ptr 2 0, .sl (st.map iv), .v (.int .i64 ((st.map iv).length : Int)), .v (.int .i64 (q : Int))])
    (fun q => [.box 25 [.sl (m.words.map iv), .sl (m.tags.map iv)], .box 33 [.slf [], .slf [], .slf [], iv 0, .slf [], .slf [], .slf []],
      .box 33 [.sl (code.map encIns), .sl (m.words.map iv), .sl (m.tags.map iv), iv d, .sl ((List.replicate st.length ([] : List Wput)).map encBuf), .arr 3 (q + 1), .slf []], .arr (q + 1) 87 13 ((st.take q).map fun a => encThr (thrP a))]) (fun q => st.length - q) 0 (Nat.zero_le _) rfl rfl (fun q hq => ?_)
  repeat (first | refine js rfl ?_ | (refine jdraw ?_ ?_; · kernel_rfl) | refine jbu rfl rfl rfl rfl ?_)
  refine jc rfl rfl rfl (fun h => ?_) (fun h => ?_)
  · have h := of_decide_eq_true h
    rw [List.length_map] at h
    have hq2 : q < st.length := by omega
    have hidx : IntKind.i64.wrap ((q : Int) + 1) = ((q + 1 : Nat) : Int) := idx_next hq2 (by omega)
    have htk : (st.take q) ++ [at' st (q : Int)] = st.take (q + 1) := by rw [at_nat st q hq2, List.take_add_one, List.getElem?_eq_getElem hq2]; rfl
    have hln : (st.take q).length ≤ 1000 := by rw [List.length_take]; omega
    repeat (first | refine jow rfl rfl (readP_dsem rfl) (thr_weak _) rfl rfl ?_ | refine js rfl ?_ | (refine jdraw ?_ ?_; · kernel_rfl) | refine jbu rfl rfl rfl rfl ?_ | refine jo rfl rfl (index_at rfl rfl rfl rfl rfl rfl rfl rfl (Int.natCast_nonneg q) h) rfl rfl ?_)
    refine jo rfl rfl (append_enc (enc := fun a => encThr (thrP a)) (l := st.take q) (at' st (q : Int)) rfl rfl rfl rfl rfl rfl rfl rfl rfl rfl (elemsP []) rfl (by omega) rfl rfl) rfl rfl ?_
    rw [htk]
    repeat (first | refine js rfl ?_ | (refine jdraw ?_ ?_; · kernel_rfl) | refine jbu rfl rfl rfl rfl ?_)
    refine jnextI (q + 1) hq2 ?_ rfl (by omega)
    show some _ = some _
    rw [hidx]
  · have h := of_decide_eq_false h
    rw [List.length_map] at h
    have : q = st.length := by omega
    subst this
    rw [List.take_length]
    refine jpubB 2 5 3 rfl rfl rfl rfl rfl rfl rfl ?_
    repeat (first | refine js rfl ?_ | (refine jdraw ?_ ?_; · kernel_rfl) | refine jbu rfl rfl rfl rfl ?_)
    exact jret [] true rfl rfl rfl ⟨rfl, rfl⟩
end Go.AL
end
section
set_option linter.unusedVariables false
set_option linter.unusedSimpArgs false
set_option maxRecDepth 100000
namespace Go.AL
open Go Go.Proofs
attribute [local irreducible] J

theorem r9done_ok (w : Wd) (a : Act) (h : WdR w) : ACalls Tryz.prog 20 [encWd w, encAct a] [] (one (bv (actW w a).2) []) := by
  have h1 := rdone_ok w a h
  unfold encWd wCells ivs encAct at *
  refine jcalls Tryz.func20 rfl (by kernel_rfl) Tryz.ntmps20 rfl rfl (fun w0 β0 ext hβ => ?_)
  repeat (first | refine js rfl ?_ | (refine jdraw ?_ ?_; · kernel_rfl) | refine jbu rfl rfl rfl rfl ?_ | refine jv h1 rfl rfl rfl rfl rfl ?_)
  exact jr rfl rfl rfl rfl
theorem r9do_ok (w : Wd) (a : Act) (h : WdR w) (hev : w.evs.length ≤ 900000) : ACalls Tryz.prog 21 [encWd w, encAct a] [] (one (encWd (actW w a).1) []) := by
  have h1 := rdo_ok w a h hev
  generalize (actW w a).1 = w1 at *
  unfold encWd wCells ivs encAct at *
  refine jcalls Tryz.func21 rfl (by kernel_rfl) Tryz.ntmps21 rfl rfl (fun w0 β0 ext hβ => ?_)
  repeat (first | refine js rfl ?_ | (refine jdraw ?_ ?_; · kernel_rfl) | refine jbu rfl rfl rfl rfl ?_ | refine jv h1 rfl rfl rfl rfl rfl ?_)
  exact jr rfl rfl rfl rfl
theorem r9idle_ok (w : Wd) (h : WdR w) : ACalls Tryz.prog 22 [encWd w] [] (one (bv (idleW w)) []) := by
  have hb8 := h.tso.sz
  have hlen := h.len
  have h1 := fun a => r9done_ok w a h
  have hact : ∀ q, q < w.thr.length → ((actW w ⟨0, (q : Int)⟩).2 || (actW w ⟨1, (q : Int)⟩).2) = (canW w q || decide (0 < (bufAt w.tso q).length)) := fun q hq => by
    rw [act_step h hq, act_flush h hq]
    cases canW w q <;> cases bufAt w.tso q <;> simp
  unfold encWd wCells ivs encAct at *
  refine jcalls Tryz.func22 rfl (by kernel_rfl) Tryz.ntmps22 rfl rfl (fun w0 β0 ext hβ => ?_)
  repeat (first | refine js rfl ?_ | (refine jdraw ?_ ?_; · kernel_rfl) | refine jbu rfl rfl rfl rfl ?_)
  refine jloopI (fun q : Nat => q ≤ w.thr.length ∧ ∀ k, k < q → (canW w k || decide (0 < (bufAt w.tso k).length)) = false) [1, 2, 6, 7] (fun q => [.ptr 0 0, bv false, .v (.int .i64 ((w.thr.map encThr).length : Int)), .v (.int .i64 (q : Int))])
    (fun q => [.box 33 (wCells w)]) (fun q => w.thr.length - q) 0 ⟨Nat.zero_le _, fun k hk => absurd hk (Nat.not_lt_zero _)⟩ rfl rfl (fun q hq => ?_)
  obtain ⟨hq, hok⟩ := hq
  unfold wCells ivs
  repeat (first | refine js rfl ?_ | (refine jdraw ?_ ?_; · kernel_rfl) | refine jbu rfl rfl rfl rfl ?_)
  refine jc rfl rfl rfl (fun h => ?_) (fun h => ?_)
  · have h := of_decide_eq_true h
    rw [List.length_map] at h
    have hq2 : q < w.thr.length := by omega
    have hidx : IntKind.i64.wrap ((q : Int) + 1) = ((q + 1 : Nat) : Int) := idx_next hq2 (by omega)
    have hact := hact q hq2
    have hnx : (canW w q || decide (0 < (bufAt w.tso q).length)) = false → ∀ k, k < q + 1 → (canW w k || decide (0 < (bufAt w.tso k).length)) = false := fun hb k hk => by
      by_cases e : k = q
      · subst e; exact hb
      · exact hok k (by omega)
    have hno : (canW w q || decide (0 < (bufAt w.tso q).length)) = true → idleW w = false := fun hb => by
      cases hi : idleW w with
      | false => rfl
      | true => have := idle_iff.1 hi q (by rw [← hlen]; exact hq2); rw [hb] at this; cases this
    have h2 := h1 ⟨0, (q : Int)⟩
    have h3 := h1 ⟨1, (q : Int)⟩
    cases hb0 : (actW w ⟨0, (q : Int)⟩).2 with
    | true =>
      rw [hb0] at hact h2
      rw [hno (by rw [← hact]; rfl)]
      repeat (first | refine js rfl ?_ | (refine jdraw ?_ ?_; · kernel_rfl) | refine jbu rfl rfl rfl rfl ?_ | refine jv h2 rfl rfl rfl rfl rfl ?_)
      exact jr rfl rfl rfl rfl
    | false =>
      cases hb1 : (actW w ⟨1, (q : Int)⟩).2 with
      | true =>
        rw [hb0, hb1] at hact
        rw [hb0] at h2
        rw [hb1] at h3
        rw [hno (by rw [← hact]; rfl)]
        repeat (first | refine js rfl ?_ | (refine jdraw ?_ ?_; · kernel_rfl) | refine jbu rfl rfl rfl rfl ?_ | refine jv h2 rfl rfl rfl rfl rfl ?_ | refine jv h3 rfl rfl rfl rfl rfl ?_)
        exact jr rfl rfl rfl rfl
      | false =>
        rw [hb0, hb1] at hact
        rw [hb0] at h2
        rw [hb1] at h3
        repeat (first | refine js rfl ?_ | (refine jdraw ?_ ?_; · kernel_rfl) | refine jbu rfl rfl rfl rfl ?_ | refine jv h2 rfl rfl rfl rfl rfl ?_ | refine jv h3 rfl rfl rfl rfl rfl ?_)
        refine jnextI (q + 1) ⟨hq2, hnx (by rw [← hact]; rfl)⟩ ?_ rfl (by omega)
        show some _ = some _
        rw [hidx]
  · have h := of_decide_eq_false h
    rw [List.length_map] at h
    rw [idle_iff.2 fun k hk => hok k (by rw [← hlen] at hk; omega)]
    repeat (first | refine js rfl ?_ | (refine jdraw ?_ ?_; · kernel_rfl) | refine jbu rfl rfl rfl rfl ?_)
    exact jr rfl rfl rfl rfl
theorem r9run_ok (w : Wd) (l : List Act) (h : WdR w) (he : w.evs.length ≤ 800000) (hl : l.length ≤ 100000) : ACalls Tryz.prog 18 [encWd w, .sl (l.map encAct)] [] (one (.tup [encWd (runW w l).1, iv ((runW w l).2 : Int)]) []) := by
  have h1 := rrun_ok w l h he hl
  generalize runW w l = r at *
  unfold encWd wCells ivs at *
  refine jcalls Tryz.func18 rfl (by kernel_rfl) Tryz.ntmps18 rfl rfl (fun w0 β0 ext hβ => ?_)
  repeat (first | refine js rfl ?_ | (refine jdraw ?_ ?_; · kernel_rfl) | refine jbu rfl rfl rfl rfl ?_ | refine jv h1 rfl rfl rfl rfl rfl ?_)
  exact jr rfl rfl rfl rfl
structure RrI (w : Wd) (m : Nat) (s : Nat × Wd) : Prop where
  le : s.1 ≤ m
  right : WdR s.2
  thr : s.2.thr.length = w.thr.length
  evs : s.2.evs.length ≤ w.evs.length + 16 * s.1
  eq : roundsW w m = ((roundsW s.2 (m - s.1)).1, s.1 + (roundsW s.2 (m - s.1)).2)
end Go.AL
end
section
set_option linter.unusedVariables false
set_option linter.unusedSimpArgs false
set_option maxRecDepth 100000
namespace Go.AL
open Go Go.Proofs
attribute [local irreducible] J

theorem newOk_right {code : List Ins} {st : List Int} {m : Mem} {d : Int} (hc : rightC code = true) (hm : mRight m = true) (h1 : 1 ≤ st.length) (h8 : st.length ≤ 8) (hd : 0 ≤ d ∧ d ≤ 8) (hs : ∀ a ∈ st, 0 ≤ a ∧ a ≤ code.length) : WdR (newOk code st m d) := by
  have hl : code.length ≤ 1000 := by
    unfold rightC at hc
    rw [Bool.and_eq_true] at hc
    exact of_decide_eq_true hc.1
  refine ⟨hc, ⟨hm, ⟨⟨by simp [newOk]; omega, by simp [newOk]; omega⟩, hd⟩, fun b hb => ?_⟩, by simp [newOk], fun t ht => ?_⟩
  · have hb : b ∈ List.replicate st.length ([] : List Wput) := hb
    rw [List.eq_of_mem_replicate hb]
    exact ⟨hd.1, fun p hp => absurd hp List.not_mem_nil⟩
  · have ht : t ∈ st.map thrP := ht
    obtain ⟨a, ha, rfl⟩ := List.mem_map.1 ht
    have := hs a ha
    exact ⟨thRight_iff.2 ⟨by show 0 ≤ a ∧ a ≤ 1000; omega, Nat.zero_le _, Nat.zero_le _, fun f hf => absurd hf List.not_mem_nil, fun f hf => absurd hf List.not_mem_nil, .inl ⟨.inl rfl, rfl⟩⟩, .inl rfl⟩
def cl (L : Nat) (s : Int) : Int := (IntKind.i64.wrap (IntKind.i64.wrap (s.tmod (IntKind.i64.wrap ((L : Int) + 1)) + L) + 1)).tmod (IntKind.i64.wrap ((L : Int) + 1))
theorem tmod_bd (k : Int) {n : Int} (hn : 0 < n) : -n < k.tmod n ∧ k.tmod n < n := by
  have := Int.natAbs_tmod k n
  have h2 : (k.natAbs % n.natAbs) < n.natAbs := Nat.mod_lt _ (by omega)
  omega
theorem tmod_nn {k n : Int} (hk : 0 ≤ k) : 0 ≤ k.tmod n := Int.tmod_nonneg n hk
theorem cl_bd (L : Nat) (s : Int) (hL : L ≤ 1000000) : 0 ≤ cl L s ∧ cl L s ≤ L := by
  unfold cl
  rw [wrap_id (by omega : -9223372036854775808 ≤ (L : Int) + 1) (by omega)]
  have h1 := tmod_bd s (n := (L : Int) + 1) (by omega)
  rw [wrap_id (by omega : -9223372036854775808 ≤ s.tmod ((L : Int) + 1) + L) (by omega)]
  rw [wrap_id (by omega : -9223372036854775808 ≤ s.tmod ((L : Int) + 1) + L + 1) (by omega)]
  have h2 := tmod_bd (s.tmod ((L : Int) + 1) + L + 1) (n := (L : Int) + 1) (by omega)
  have h3 := tmod_nn (k := s.tmod ((L : Int) + 1) + L + 1) (n := (L : Int) + 1) (by omega)
  omega
def nine (d : Int) : Int := (IntKind.i64.wrap (d.tmod 9 + 9)).tmod 9
theorem nine_bd (d : Int) : 0 ≤ nine d ∧ nine d ≤ 8 := by
  unfold nine
  have h1 := tmod_bd d (n := 9) (by omega)
  rw [wrap_id (by omega : -9223372036854775808 ≤ d.tmod 9 + 9) (by omega)]
  have h2 := tmod_bd (d.tmod 9 + 9) (n := 9) (by omega)
  have h3 := tmod_nn (k := d.tmod 9 + 9) (n := 9) (by omega)
  omega
def wok (code : List Ins) (ws ts : List Int) : Bool := rightC (code.take 60) && mRight ⟨ws.take 170, ts.take 170⟩
def wcode (code : List Ins) (ws ts : List Int) : List Ins := cond (wok code ws ts) (code.take 60) []
def wmem (code : List Ins) (ws ts : List Int) : Mem := cond (wok code ws ts) ⟨ws.take 170, ts.take 170⟩ ⟨List.replicate 1 0, List.replicate 1 0⟩
def wst (c : List Ins) (st : List Int) : List Int := cond (decide (st.take 8 = [])) [0] ((st.take 8).map (cl (c.map encIns).length))
def worldW (code : List Ins) (st ws ts : List Int) (d : Int) : Wd := newOk (wcode code ws ts) (wst (wcode code ws ts) st) (wmem code ws ts) (nine d)
theorem wcode_right (code : List Ins) (ws ts : List Int) : rightC (wcode code ws ts) = true ∧ mRight (wmem code ws ts) = true ∧ (wcode code ws ts).length ≤ 60 := by
  unfold wcode wmem
  cases h : wok code ws ts with
  | true =>
    unfold wok at h
    rw [Bool.and_eq_true] at h
    exact ⟨h.1, h.2, by simp only [cond_true, List.length_take]; omega⟩
  | false => exact ⟨by show rightC [] = true; decide, by show mRight ⟨List.replicate 1 0, List.replicate 1 0⟩ = true; decide, Nat.zero_le _⟩
theorem worldW_right (code : List Ins) (st ws ts : List Int) (d : Int) : WdR (worldW code st ws ts d) := by
  obtain ⟨h1, h2, h3⟩ := wcode_right code ws ts
  unfold worldW
  generalize wcode code ws ts = c at *
  refine newOk_right h1 h2 ?_ ?_ (nine_bd d) ?_
  · unfold wst
    cases h : decide (st.take 8 = []) with
    | true => exact Nat.le_refl 1
    | false =>
      have := of_decide_eq_false h
      simp only [cond_false, List.length_map]
      exact List.length_pos_iff.2 this
  · unfold wst
    cases h : decide (st.take 8 = []) with
    | true => exact (by decide : 1 ≤ 8)
    | false => simp only [cond_false, List.length_map, List.length_take]; omega
  · unfold wst
    cases h : decide (st.take 8 = []) with
    | true => intro a ha; simp at ha; subst ha; omega
    | false =>
      intro a ha
      simp only [cond_false] at ha
      obtain ⟨s, hs, rfl⟩ := List.mem_map.1 ha
      have := cl_bd (c.map encIns).length s (by rw [List.length_map]; omega)
      rw [List.length_map] at this ⊢
      exact this
theorem nil_ins (c : Ctx) (u : Value) (h : Rel c (.slf []) u) : Rel c (.sl (([] : List Ins).map encIns)) u := sl_weak h
theorem world_ok (code : List Ins) (st ws ts : List Int) (d : Int) : ACalls Tryz.prog 15 [encIs code, ivs st, ivs ws, ivs ts, iv d] [] (one (encWd (worldW code st ws ts d)) []) := by
  obtain ⟨q1, q2, q3⟩ := wcode_right code ws ts
  have hnew := rwnew_ok (wcode code ws ts) (wst (wcode code ws ts) st) (wmem code ws ts) (nine d) (by
    unfold wst
    cases h : decide (st.take 8 = []) with
    | true => exact (by decide : 1 ≤ 1000)
    | false => simp only [cond_false, List.length_map, List.length_take]; omega)
  have h1 := rright_ok (code.take 60) (by rw [List.length_take]; omega)
  have h2 := rmright_ok ⟨ws.take 170, ts.take 170⟩ (by simp only [List.length_take]; omega) (by simp only [List.length_take]; omega)
  have h3 := rmnew_ok 1 (by decide)
  have m1 : (if (60 : Int) < (((code.map encIns).length : Nat) : Int) then (60 : Int) else (((code.map encIns).length : Nat) : Int)) = ((min code.length 60 : Nat) : Int) := by rw [List.length_map]; split <;> omega
  have m2 : (if (170 : Int) < (((ws.map iv).length : Nat) : Int) then (170 : Int) else (((ws.map iv).length : Nat) : Int)) = ((min ws.length 170 : Nat) : Int) := by rw [List.length_map]; split <;> omega
  have m3 : (if (170 : Int) < (((ts.map iv).length : Nat) : Int) then (170 : Int) else (((ts.map iv).length : Nat) : Int)) = ((min ts.length 170 : Nat) : Int) := by rw [List.length_map]; split <;> omega
  have m4 : (if (8 : Int) < (((st.map iv).length : Nat) : Int) then (8 : Int) else (((st.map iv).length : Nat) : Int)) = ((min st.length 8 : Nat) : Int) := by rw [List.length_map]; split <;> omega
  unfold worldW
  unfold encIs ivs
  refine jcalls Tryz.func15 rfl (by kernel_rfl) Tryz.ntmps15 rfl rfl (fun w0 β0 ext hβ => ?_)
  repeat (first | refine jad 11 79 4 rfl rfl rfl rfl ?_ | refine js rfl ?_ | (refine jdraw ?_ ?_; · kernel_rfl) | refine jbu rfl rfl rfl rfl ?_)
  refine jo rfl rfl (cut_take 60 rfl rfl rfl m1 rfl rfl rfl (fun _ => ⟨rfl, rfl⟩)) rfl rfl ?_
  repeat (first | refine js rfl ?_ | (refine jdraw ?_ ?_; · kernel_rfl) | refine jbu rfl rfl rfl rfl ?_)
  have c60 : (code.take 60).length ≤ 60 := by rw [List.length_take]; omega
  unfold wcode wmem wok at *
  generalize code.take 60 = c at *
  refine jfin 2 [1, 2, 3, 4, 10, 11, 23, 24, 25] true rfl rfl rfl (by show β0.length ≤ 2; rw [hβ]; exact Nat.zero_le _) ?_
  refine jloop 2 (fun q : Nat => q ≤ c.length) [1, 2, 3, 4, 10, 11, 23, 24, 25] (fun q => [.sl (st.map iv), .sl (ws.map iv), .sl (ts.map iv), iv d, .ptr 0 0, .arr 1 (q + 1), .sl (c.map encIns), .v (.int .i64 ((c.map encIns).length : Int)), .v (.int .i64 (q : Int))])
    (fun q => [.box 33 w0C, .arr (q + 1) 79 4 ((c.take q).map encIns)]) (fun q => c.length - q) 0 (by show β0.length ≤ 2; rw [hβ]; exact Nat.zero_le _) (Nat.zero_le _) rfl rfl (fun q hq => ?_)
  unfold w0C
  repeat (first | refine js rfl ?_ | (refine jdraw ?_ ?_; · kernel_rfl) | refine jbu rfl rfl rfl rfl ?_)
  refine jc rfl rfl rfl (fun h => ?_) (fun h => ?_)
  · have h := of_decide_eq_true h
    rw [List.length_map] at h
    have hq2 : q < c.length := by omega
    have hidx : IntKind.i64.wrap ((q : Int) + 1) = ((q + 1 : Nat) : Int) := idx_next hq2 (by omega)
    have htk : (c.take q) ++ [at' c (q : Int)] = c.take (q + 1) := by rw [at_nat c q hq2, List.take_add_one, List.getElem?_eq_getElem hq2]; rfl
    have hln : (c.take q).length ≤ 60 := by rw [List.length_take]; omega
    repeat (first | refine js rfl ?_ | (refine jdraw ?_ ?_; · kernel_rfl) | refine jbu rfl rfl rfl rfl ?_ | refine jo rfl rfl (index_at rfl rfl rfl rfl rfl rfl rfl rfl (Int.natCast_nonneg q) h) rfl rfl ?_)
    refine jo rfl rfl (append_enc (enc := encIns) (l := c.take q) (at' c (q : Int)) rfl rfl rfl rfl rfl rfl rfl rfl rfl rfl (fun x => ⟨rfl, rfl⟩) rfl (by omega) rfl rfl) rfl rfl ?_
    rw [htk]
    repeat (first | refine js rfl ?_ | (refine jdraw ?_ ?_; · kernel_rfl) | refine jbu rfl rfl rfl rfl ?_)
    refine jnext (q + 1) hq2 (by omega) rfl rfl rfl ?_ rfl
    rw [hidx]; rfl
  · have h := of_decide_eq_false h
    rw [List.length_map] at h
    have : q = c.length := by omega
    subst this
    rw [List.take_length]
    refine jpub 11 rfl rfl rfl rfl ?_
    repeat (first | refine js rfl ?_ | refine jbu rfl rfl rfl rfl ?_)
    refine jdraw ?_ ?_; · kernel_rfl
    repeat (first | refine js rfl ?_ | (refine jdraw ?_ ?_; · kernel_rfl) | refine jbu rfl rfl rfl rfl ?_)
    refine jo rfl rfl (cut_take 170 rfl rfl rfl m2 rfl rfl rfl (fun _ => ⟨rfl, rfl⟩)) rfl rfl ?_
    repeat (first | refine js rfl ?_ | (refine jdraw ?_ ?_; · kernel_rfl) | refine jbu rfl rfl rfl rfl ?_)
    refine jo rfl rfl (cut_take 170 rfl rfl rfl m3 rfl rfl rfl (fun _ => ⟨rfl, rfl⟩)) rfl rfl ?_
    generalize ws.take 170 = w1 at *
    generalize ts.take 170 = t1 at *
    unfold encIs at h1
    unfold encMem mCells ivs at h2 h3
    refine js rfl ?_
    refine js rfl ?_
    refine js rfl ?_
    refine js rfl ?_
    refine js rfl ?_
    refine js rfl ?_
    generalize hcc : cond (rightC c && mRight ⟨w1, t1⟩) c [] = c2 at *
    generalize hmm : cond (rightC c && mRight ⟨w1, t1⟩) ⟨w1, t1⟩ (⟨List.replicate 1 0, List.replicate 1 0⟩ : Mem) = m2' at *
    refine jmid [1, 4, 10, 11, 14] [.sl (st.map iv), iv d, .ptr 0 0, .sl (c2.map encIns), .ptr 2 0] [.box 33 w0C, .dead (c.length + 1 + 1), .box 25 [.sl (m2'.words.map iv), .sl (m2'.tags.map iv)]] ?_ ?_
    · unfold w0C
      cases b1 : rightC c with
      | false =>
        rw [b1] at h1 hcc hmm
        simp only [Bool.false_and, cond_false] at hcc hmm
        subst hcc hmm
        repeat (first | refine jow rfl rfl (readP_dsem rfl) nil_ins rfl rfl ?_ | refine js rfl ?_ | (refine jdraw ?_ ?_; · kernel_rfl) | refine jbu rfl rfl rfl rfl ?_ | refine jv h1 rfl rfl rfl rfl rfl ?_ | refine jv h3 rfl rfl rfl rfl rfl ?_)
        exact jmeet rfl rfl
      | true =>
        rw [b1] at h1 hcc hmm
        cases b2 : mRight ⟨w1, t1⟩ with
        | false =>
          rw [b2] at h2 hcc hmm
          simp only [Bool.and_false, cond_false] at hcc hmm
          subst hcc hmm
          repeat (first | refine jow rfl rfl (readP_dsem rfl) nil_ins rfl rfl ?_ | refine js rfl ?_ | (refine jdraw ?_ ?_; · kernel_rfl) | refine jbu rfl rfl rfl rfl ?_ | refine jv h1 rfl rfl rfl rfl rfl ?_ | refine jv h2 rfl rfl rfl rfl rfl ?_ | refine jv h3 rfl rfl rfl rfl rfl ?_)
          exact jmeet rfl rfl
        | true =>
          rw [b2] at h2 hcc hmm
          simp only [Bool.and_true, cond_true] at hcc hmm
          subst hcc hmm
          repeat (first | refine js rfl ?_ | (refine jdraw ?_ ?_; · kernel_rfl) | refine jbu rfl rfl rfl rfl ?_ | refine jv h1 rfl rfl rfl rfl rfl ?_ | refine jv h2 rfl rfl rfl rfl rfl ?_)
          exact jmeet rfl rfl
    · unfold w0C
      have hL0 : IntKind.i64.wrap ((((c2.map encIns).length : Nat) : Int) + 1) ≠ 0 := by rw [List.length_map, wrap_id] <;> omega
      have s8 : (st.take 8).length ≤ 8 := by rw [List.length_take]; omega
      repeat (first | refine jad 15 3 1 rfl rfl rfl rfl ?_ | refine js rfl ?_ | (refine jdraw ?_ ?_; · kernel_rfl) | refine jbu rfl rfl rfl rfl ?_)
      refine jo rfl rfl (cut_take 8 rfl rfl rfl m4 rfl rfl rfl (fun _ => ⟨rfl, rfl⟩)) rfl rfl ?_
      repeat (first | refine js rfl ?_ | (refine jdraw ?_ ?_; · kernel_rfl) | refine jbu rfl rfl rfl rfl ?_)
      unfold wst at *
      generalize st.take 8 = s1 at *
      refine jloopI (fun q : Nat => q ≤ s1.length) [4, 10, 11, 14, 15, 58, 59, 60] (fun q => [iv d, .ptr 0 0, .sl (c2.map encIns), .ptr 2 0, .arr 3 (q + 1), .sl (s1.map iv), .v (.int .i64 ((s1.map iv).length : Int)), .v (.int .i64 (q : Int))])
        (fun q => [.box 33 [.sl [], .sl [], .sl [], iv 0, .sl [], .sl [], .sl []], .dead (c.length + 1 + 1), .box 25 [.sl (m2'.words.map iv), .sl (m2'.tags.map iv)], .arr (q + 1) 3 1 (((s1.take q).map (cl (c2.map encIns).length)).map iv)]) (fun q => s1.length - q) 0 (Nat.zero_le _) rfl rfl (fun q hq => ?_)
      repeat (first | refine js rfl ?_ | (refine jdraw ?_ ?_; · kernel_rfl) | refine jbu rfl rfl rfl rfl ?_)
      refine jc rfl rfl rfl (fun h => ?_) (fun h => ?_)
      · have h := of_decide_eq_true h
        rw [List.length_map] at h
        have hq2 : q < s1.length := by omega
        have hidx : IntKind.i64.wrap ((q : Int) + 1) = ((q + 1 : Nat) : Int) := idx_next hq2 (by omega)
        have htk : (s1.take q).map (cl (c2.map encIns).length) ++ [cl (c2.map encIns).length (at' s1 (q : Int))] = (s1.take (q + 1)).map (cl (c2.map encIns).length) := by rw [at_nat s1 q hq2, List.take_add_one, List.getElem?_eq_getElem hq2, List.map_append]; rfl
        have hln : ((s1.take q).map (cl (c2.map encIns).length)).length ≤ 8 := by rw [List.length_map, List.length_take]; omega
        repeat (first | refine js rfl ?_ | (refine jdraw ?_ ?_; · kernel_rfl) | refine jbu rfl rfl rfl rfl ?_ | refine jo rfl rfl (index_at rfl rfl rfl rfl rfl rfl rfl rfl (Int.natCast_nonneg q) h) rfl rfl ?_ | refine jo rfl rfl (rem_op rfl rfl hL0) rfl rfl ?_)
        refine jo rfl rfl (append_enc (enc := iv) (l := (s1.take q).map (cl (c2.map encIns).length)) (cl (c2.map encIns).length (at' s1 (q : Int))) rfl rfl rfl rfl rfl rfl rfl rfl rfl rfl (fun x => ⟨rfl, rfl⟩) rfl (by omega) rfl rfl) rfl rfl ?_
        rw [htk]
        repeat (first | refine js rfl ?_ | (refine jdraw ?_ ?_; · kernel_rfl) | refine jbu rfl rfl rfl rfl ?_)
        refine jnextI (q + 1) hq2 ?_ rfl (by omega)
        show some _ = some _
        rw [hidx]
      · have h := of_decide_eq_false h
        rw [List.length_map] at h
        have : q = s1.length := by omega
        subst this
        rw [List.take_length]
        have h9 : (9 : Int) ≠ 0 := by decide
        unfold encIs encMem mCells ivs encWd wCells at hnew
        unfold encWd wCells
        refine jpub 15 rfl rfl rfl rfl ?_
        repeat (first | refine js rfl ?_ | (refine jdraw ?_ ?_; · kernel_rfl) | refine jbu rfl rfl rfl rfl ?_)
        by_cases hs : s1 = []
        · rw [decide_eq_true hs] at hnew ⊢
          subst hs
          repeat (first | refine js rfl ?_ | (refine jdraw ?_ ?_; · kernel_rfl) | refine jbu rfl rfl rfl rfl ?_ | refine jo rfl rfl (rem_op rfl rfl h9) rfl rfl ?_ | refine jw hnew rfl rfl rfl rfl rfl rfl ?_)
          exact jret [] true rfl rfl rfl ⟨rfl, rfl⟩
        · rw [decide_eq_false hs] at hnew ⊢
          rw [show (((((s1.map (cl (c2.map encIns).length)).map iv).length : Nat) : Int) == 0) = false from by
            rw [beq_eq_false_iff_ne, List.length_map, List.length_map]
            have := List.length_pos_iff.2 hs
            omega]
          repeat (first | refine js rfl ?_ | (refine jdraw ?_ ?_; · kernel_rfl) | refine jbu rfl rfl rfl rfl ?_ | refine jo rfl rfl (rem_op rfl rfl h9) rfl rfl ?_ | refine jv hnew rfl rfl rfl rfl rfl ?_)
          exact jret [] true rfl rfl rfl ⟨rfl, rfl⟩
end Go.AL
end
section
set_option linter.unusedVariables false
set_option linter.unusedSimpArgs false
set_option maxRecDepth 100000
namespace Go.AL
open Go Go.Proofs
theorem ACalls.argw {P : Program} {f : FuncId} {args args' : List AVal} {H : List AObj} {Q : Eff} (h : ACalls P f args H Q) (hr : ∀ (c : Ctx) us, RelL c args' us → RelL c args us) : ACalls P f args' H Q :=
  ⟨h.enters, fun ext w β us hI hx h0 => h.calls ext w β us hI hx (hr _ _ h0)⟩
theorem agg_weak {c : Ctx} {cs cs' : List AVal} (hr : ∀ us, RelL c cs us → RelL c cs' us) (u : Value) (h : Rel c (.agg cs) u) : Rel c (.agg cs') u := by
  obtain ⟨a, e, h⟩ := h
  exact ⟨a, e, hr _ h⟩
attribute [local irreducible] J

def haltT : Bs := [115,101,116,32,114,49,32,55,10,104,97,108,116,10,97,58,10,115,101,116,32,114,49,32,56,10,104,97,108,116,10]
def haltC : List Ins := [⟨1, 1, 7, 0⟩, ⟨0, 0, 0, 0⟩, ⟨1, 1, 8, 0⟩, ⟨0, 0, 0, 0⟩]
theorem halt_parse : parseP haltT = (haltC, 0, 0) := by decide +kernel
theorem halt_where : whereP haltT [97] = (2, 0) := by decide +kernel
def haltW : Wd := newOk haltC [2] ⟨[0], [1]⟩ 0
theorem haltW_right : WdR haltW := newOk_right (by decide +kernel) (by decide) (by decide) (by decide) (by decide) (by intro a ha; simp at ha; subst ha; decide)
theorem halt_new : newW haltC [2] ⟨[0], [1]⟩ 0 = (haltW, 0) := by
  unfold newW haltW
  rw [show rightC haltC = true by decide +kernel]
  rfl
theorem halt_runs : (roundsW haltW 9).2 = 2 ∧ (roundsW haltW 9).1.thr.length = 1 ∧ g0 (at' (roundsW haltW 9).1.thr (0 : Int)).regs 1 = 8 := by decide +kernel
theorem halive_ok (g : Gl) : ACalls Tryz.prog 12 [] (gls g) (one (bv true) (gls g)) := by
  have h1 := snew_ok g haltT [[97]] ⟨[0], [1]⟩ 0 (by decide) (by decide) (by decide) (by rw [halt_parse]) (by intro l hl; simp at hl; subst hl; rw [halt_where]) (by rw [halt_parse]; decide)
  have e1 : stAt haltT [[97]] = [2] := by unfold stAt; simp [halt_where]
  rw [halt_parse, e1] at h1
  simp only at h1
  rw [halt_new] at h1
  have h2 := rounds_ok haltW 9 haltW_right (by decide) (by decide)
  obtain ⟨r1, r2, r3⟩ := halt_runs
  rw [r1] at h2
  generalize (roundsW haltW 9).1 = w at *
  simp only at h1
  generalize haltW = w0 at *
  have hl : ((((w.thr.map encThr).length : Nat) : Int) == 1) = true := by rw [List.length_map, r2]; rfl
  have h0 : (0 : Int) < w.thr.length := by omega
  unfold gls at *
  unfold encWd wCells encMem mCells ivs at *
  have h1 := h1.argw (args' := [sv haltT, .slf [sv [97]], .agg [.slf [iv 0], .slf [iv 1]], iv 0])
    (fun c us h => relL_cons (fun u h => h) (relL_cons (fun u h => sl_weak h) (relL_cons (agg_weak (relL_cons (fun u h => sl_weak h) (relL_cons (fun u h => sl_weak h) (fun us h => h)))) (fun us h => h))) us h)
  refine jcalls Tryz.func12 rfl (by kernel_rfl) Tryz.ntmps12 rfl rfl (fun w0 β0 ext hβ => ?_)
  repeat (first | refine js rfl ?_ | (refine jdraw ?_ ?_; · kernel_rfl) | refine jbu rfl rfl rfl rfl ?_)
  refine jb [0,1,2,3] h1 rfl rfl rfl ⟨rfl, rfl, rfl, rfl, rfl, rfl⟩ rfl rfl rfl rfl ?_
  repeat (first | refine js rfl ?_ | (refine jdraw ?_ ?_; · kernel_rfl) | refine jbu rfl rfl rfl rfl ?_ | refine jv h2 rfl rfl rfl rfl rfl ?_)
  rw [hl]
  repeat (first | refine js rfl ?_ | (refine jdraw ?_ ?_; · kernel_rfl) | refine jbu rfl rfl rfl rfl ?_ | refine jo rfl rfl (index_at rfl rfl rfl rfl rfl rfl rfl rfl (Int.le_refl 0) h0) rfl rfl ?_)
  refine jo rfl rfl (index_pp rfl rfl rfl rfl rfl (by decide) (by decide)) rfl rfl ?_
  repeat (first | refine js rfl ?_ | (refine jdraw ?_ ?_; · kernel_rfl) | refine jbu rfl rfl rfl rfl ?_)
  rw [r3]
  repeat (first | refine js rfl ?_ | (refine jdraw ?_ ?_; · kernel_rfl) | refine jbu rfl rfl rfl rfl ?_)
  exact jr rfl rfl rfl rfl
theorem runW_sz {w : Wd} (h : WdR w) (he : w.evs.length ≤ 1000) (l : List Act) (hl : l.length ≤ 1000) : WdR (runW w l).1 ∧ (runW w l).1.evs.length ≤ 2000 ∧ (runW w l).2 ≤ 1000 := by
  obtain ⟨a, b, c⟩ := runW_right h l 0
  exact ⟨a, by unfold runW; omega, by unfold runW; omega⟩
theorem runs_ok (g : Gl) (code : List Ins) (st ws ts : List Int) (d : Int) (acts : List Act) (a : Act) : ACalls Tryz.prog 5 [encIs code, ivs st, ivs ws, ivs ts, iv d, .sl (acts.map encAct), encAct a] (gls g) (one (bv true) (gls g)) := by
  have hw := worldW_right code st ws ts d
  have h1 := world_ok code st ws ts d
  have hev : (worldW code st ws ts d).evs = [] := rfl
  generalize worldW code st ws ts d = w at *
  have he : w.evs.length ≤ 1000 := by rw [hev]; decide
  have hl8 : (acts.take 80).length ≤ 1000 := by rw [List.length_take]; omega
  obtain ⟨b1, b2, b3⟩ := runW_sz hw he (acts.take 80) hl8
  have h2 := run_ok w (acts.take 80) hw (by omega) (by omega)
  have h3 := r9run_ok w (acts.take 80) hw (by omega) (by omega)
  have h5 := halive_ok g
  have m1 : (if (80 : Int) < (((acts.map encAct).length : Nat) : Int) then (80 : Int) else (((acts.map encAct).length : Nat) : Int)) = ((min acts.length 80 : Nat) : Int) := by rw [List.length_map]; split <;> omega
  generalize hL : acts.take 80 = l at *
  generalize runW w l = r at *
  obtain ⟨x, n⟩ := r
  simp only at b1 b2 b3 h2 h3
  have h4 := rsame_ok x b1.size (by omega)
  have h6 := sdoW_ok x a b1 (by omega)
  have h7 := sIdle_ok x b1
  have h8 := r9done_ok x a b1
  have h9 := r9do_ok x a b1 (by omega)
  have h10 := r9idle_ok x b1
  obtain ⟨a1, a2, _⟩ := actW_right a b1
  have h11 := rsame_ok (actW x a).1 a1.size (by omega)
  generalize actW x a = y at *
  obtain ⟨y, is⟩ := y
  simp only at *
  generalize idleW x = id at *
  clear hw a1 b1 hev he
  have hA : encAct a = .agg [iv a.kind, iv a.who] := rfl
  rw [hA] at h6 h8 h9 ⊢
  unfold gls at *
  unfold encWd wCells encIs ivs at *
  refine jcalls Tryz.func5 rfl (by kernel_rfl) Tryz.ntmps5 rfl rfl (fun w0 β0 ext hβ => ?_)
  repeat (first | refine js rfl ?_ | refine jbu rfl rfl rfl rfl ?_)
  refine jdraw ?_ ?_; · kernel_rfl
  repeat (first | refine js rfl ?_ | (refine jdraw ?_ ?_; · kernel_rfl) | refine jbu rfl rfl rfl rfl ?_ | refine jv h1 rfl rfl rfl rfl rfl ?_)
  refine jo rfl rfl (cut_take 80 rfl rfl rfl m1 rfl rfl rfl (fun _ => ⟨rfl, rfl⟩)) rfl rfl ?_
  rw [hL]
  repeat (first | refine js rfl ?_ | (refine jdraw ?_ ?_; · kernel_rfl) | refine jbu rfl rfl rfl rfl ?_ | refine jv h2 rfl rfl rfl rfl rfl ?_ | refine jv h3 rfl rfl rfl rfl rfl ?_)
  rw [show (((n : Nat) : Int) != ((n : Nat) : Int)) = false from by simp]
  repeat (first | refine js rfl ?_ | (refine jdraw ?_ ?_; · kernel_rfl) | refine jbu rfl rfl rfl rfl ?_ | refine jv h4 rfl rfl rfl rfl rfl ?_)
  refine jb [0,1,2,3] h5 rfl rfl rfl ⟨rfl, rfl, rfl, rfl, rfl, rfl⟩ rfl rfl rfl rfl ?_
  repeat (first | refine js rfl ?_ | (refine jdraw ?_ ?_; · kernel_rfl) | refine jbu rfl rfl rfl rfl ?_ | refine jv h6 rfl rfl rfl rfl rfl ?_ | refine jv h7 rfl rfl rfl rfl rfl ?_ | refine jv h8 rfl rfl rfl rfl rfl ?_)
  rw [show (is == is) = true from by simp]
  repeat (first | refine js rfl ?_ | (refine jdraw ?_ ?_; · kernel_rfl) | refine jbu rfl rfl rfl rfl ?_ | refine jv h9 rfl rfl rfl rfl rfl ?_ | refine jv h11 rfl rfl rfl rfl rfl ?_ | refine jv h10 rfl rfl rfl rfl rfl ?_)
  rw [show (id == id) = true from by simp]
  repeat (first | refine js rfl ?_ | (refine jdraw ?_ ?_; · kernel_rfl) | refine jbu rfl rfl rfl rfl ?_)
  exact jr rfl rfl rfl rfl
end Go.AL
end
section
set_option linter.unusedVariables false
set_option maxRecDepth 100000
namespace Go.Proofs.YtpckfmojmgafoaaGreatDoor
open Go Go.AL Go.ChangeShapes Go.WideShapes Go.ChangeAt Go.RowKit

theorem own : ownKnob Tryz.prog.godebug = none := by kernel_rfl
theorem kids : Kids Tryz.prog (· < Tryz.prog.types.size) := kids_rows (by kernel_rfl) (by kernel_rfl)
theorem full : ∀ t e, t < Tryz.prog.types.size → Tryz.prog.underlying t = some (.slice e) → 0 < Tryz.prog.cellsOf e := slices_full_of _ (by kernel_rfl)
theorem g_pow : Tryz.prog.globalNamed "internal/strconv.uint64pow10" = some 4 := by kernel_rfl
theorem g_syn : Tryz.prog.globalNamed "strconv.ErrSyntax" = some 2 := by kernel_rfl
theorem g_ran : Tryz.prog.globalNamed "strconv.ErrRange" = some 3 := by kernel_rfl
def glx (g : Gl) : List (Nat × Obj) := [(4, .cells powV g.t1 g.f1), (2, .cells #[.iface g.e2 g.p2] g.t2 g.f2), (3, .cells #[.iface g.e3 g.p3] g.t3 g.f3), (1, .cells #[.int .i64 g.m] g.t0 g.f0)]
theorem var_heap {W : World} {n : String} {g : Nat} {cs : Array Value} (hg : Tryz.prog.globalNamed n = some g) (hv : W.var? Tryz.prog n = some cs) : ∃ t f, W.heap[g]? = some (.cells cs t f) := by
  unfold World.var? at hv
  rw [hg] at hv
  simp only [Option.bind_some] at hv
  split at hv
  · rename_i c t f h
    injection hv with hv
    exact ⟨t, f, by rw [h, hv]⟩
  · cases hv
theorem iface_head {W : World} {n nm : String} {x : DataW Unit} {r : List (String × DataW Unit)} {g : Nat} {t : TypeId} {ms : Array (String × TypeId)} (h : laidMet Tryz.prog ((n, .iface nm x) :: r) W)
    (hg : Tryz.prog.globalNamed n = some g) (ht : (Tryz.prog.globals[g]?).map (·.type) = some t) (hu : Tryz.prog.underlying t = some (.interface ms)) : ∃ e p, W.var? Tryz.prog n = some #[.iface e p] := by
  obtain ⟨ps, ⟨g0, t0, cs0, f0, p0, q0, hg0, ht0, hv0, hd0, _, _⟩, _, _⟩ := h
  obtain rfl := Option.some.inj (hg.symm.trans hg0)
  obtain rfl := Option.some.inj (ht.symm.trans ht0)
  obtain ⟨_, u, v, e, _, _⟩ := iface_of_trod hu hd0
  refine ⟨u, v, ?_⟩
  rw [hv0]
  congr 1
  apply Array.ext'
  simpa using e
def laidL : List (String × DataW Unit) := [("math/bits.deBruijn32tab", Rows.laid_math_bits_deBruijn32tab), ("math/bits.deBruijn64tab", Rows.laid_math_bits_deBruijn64tab), ("internal/strconv.uint64pow10", Rows.laid_internal_strconv_uint64pow10), ("unicode/utf8.acceptRanges", Rows.laid_unicode_utf8_acceptRanges), ("errors.errorType", Rows.laid_errors_errorType), ("strconv.ErrRange", Rows.laid_strconv_ErrRange), ("strconv.ErrSyntax", Rows.laid_strconv_ErrSyntax), ("unicode/utf8.first", Rows.laid_unicode_utf8_first)]
def plainL : List (String × DataW Unit) := [("math/bits.deBruijn32tab", Rows.laid_math_bits_deBruijn32tab), ("math/bits.deBruijn64tab", Rows.laid_math_bits_deBruijn64tab), ("internal/strconv.uint64pow10", Rows.laid_internal_strconv_uint64pow10), ("unicode/utf8.acceptRanges", Rows.laid_unicode_utf8_acceptRanges), ("strconv.ErrRange", Rows.laid_strconv_ErrRange), ("strconv.ErrSyntax", Rows.laid_strconv_ErrSyntax), ("unicode/utf8.first", Rows.laid_unicode_utf8_first)]
theorem plain_eq : (laidL.filter fun x => x.2.handleName?.isNone) = plainL := by kernel_rfl
theorem laid_plain {W : World} (h : laidMetH Tryz.prog laidL W) : laidMet Tryz.prog plainL W := by
  have h1 := (laidMetH_iff.1 h).1
  rwa [plain_eq] at h1
noncomputable def errW (os : Os) : World :=
  let w0 := World.holding Tryz.prog os ⟨#[], #[], []⟩
  { w0 with heap := w0.heap.modify 0 fun
      | .cells _ t frozen => .cells #[.iface 164 (.agg #[typeHandle Tryz.prog 68])] t frozen
      | o => o }
noncomputable def laidW (os : Os) : World := (errW os).layVars Tryz.prog plainL
theorem laidW_os (os : Os) : (laidW os).os = os := World.layVars_os _ _ _
theorem laidW_met (os : Os) (args : Array Value) : laidMetH Tryz.prog laidL ((laidW os).forCall (fun _ _ => 0) ⟨#[], args, []⟩).memory := by
  refine laidMetH_of_parts ?_ (by kernel_rfl)
  rw [plain_eq]
  have e1 : (plainL.filter fun x => (plainL.map (·.1)).contains x.1) = plainL := List.filter_eq_self.2 fun x hx => List.contains_iff_mem.2 (List.mem_map.2 ⟨x, hx, rfl⟩)
  have e2 : (plainL.filter fun x => !(plainL.map (·.1)).contains x.1) = [] := List.filter_eq_nil_iff.2 fun x hx => by rw [List.contains_iff_mem.2 (List.mem_map.2 ⟨x, hx, rfl⟩)]; simp
  have h : laidMet Tryz.prog plainL (laidW os) := laidMet_layVars (w0 := errW os) (plainL.map (·.1)) [] (by rw [e1]; rfl) (by rw [e1]; kernel_rfl) (by rw [e1]; kernel_rfl) (by rw [e2]; exact LaidIn.none)
  exact h.of_heap (by simp [World.memory, World.forCall, Input.heap])
theorem gl_exists {W : World} (hL : laidMetH Tryz.prog laidL W) (hS : W.ShapedOpen Tryz.prog) : ∃ g : Gl, ∀ p ∈ glx g, W.heap[p.1]? = some p.2 ∧ ∀ d, p.2 ≠ .deferred d := by
  replace hL := laid_plain hL
  have h3 := hL.tail.tail
  have h5 := hL.tail.tail.tail.tail
  have h6 := hL.tail.tail.tail.tail.tail
  obtain ⟨t1, f1, a1⟩ := var_heap g_pow (Lib.tabIs_of_head (k := .u64) (zs := Lib.pow10Tab) (n := 20) (t := 302) (e := 277) g_pow (by kernel_rfl) (by kernel_rfl) (by kernel_rfl) (by kernel_rfl) (by kernel_rfl) h3)
  obtain ⟨e3, p3, b3⟩ := iface_head (t := 68) h5 g_ran (by kernel_rfl) Tryz.underlying68
  obtain ⟨e2, p2, b2⟩ := iface_head (t := 68) h6 g_syn (by kernel_rfl) Tryz.underlying68
  obtain ⟨t3, f3, a3⟩ := var_heap g_ran b3
  obtain ⟨t2, f2, a2⟩ := var_heap g_syn b2
  obtain ⟨m, a0⟩ := shaped_int (g := 1) (t := 3) (zero := #[.int .i64 0]) (k := .i64) hS (of_decide_eq_true (by kernel_rfl)) (by kernel_rfl) rfl (by kernel_rfl) (by kernel_rfl) (by kernel_rfl)
  refine ⟨⟨t1, t2, t3, f1, f2, f3, e2, e3, p2, p3, 3, (0, 0), m⟩, fun p hp => ?_⟩
  simp only [glx, List.mem_cons, List.mem_nil_iff, or_false] at hp
  rcases hp with rfl | rfl | rfl | rfl
  · exact ⟨a1, fun d h => by cases h⟩
  · exact ⟨a2, fun d h => by cases h⟩
  · exact ⟨a3, fun d h => by cases h⟩
  · exact ⟨a0, fun d h => by cases h⟩
end Go.Proofs.YtpckfmojmgafoaaGreatDoor
end
section
set_option linter.unusedVariables false
set_option maxRecDepth 100000
namespace Go.Proofs.YtpckfmojmgafoaaGreatDoor
open Go Go.AL Go.ChangeShapes Go.WideShapes Go.ChangeAt Go.RowKit

section
variable {H : Type} {enc : TypeId × Value → H} {W : World} {v : Value} {d : DataW H} {p : List MemPlace}
theorem open_agg {t : TypeId} {r : TyRow} (ht : tfind (tyTab.tab) t = some r) (hi : allInt tyTab.tab Tryz.prog.stoodInHeld 100 t = true) (ha : aggB r.d = true) (h : DataW.Trod enc Tryz.prog W 0 (fun _ => true) true t v d p) (hv : ∀ ns : List Int, v.cells.toList = intsV ns → ns.length = r.size → ∃ x, v = .agg x) :
    ∃ ns : List Int, ns.length = r.size ∧ Rel (out W) (.agg (intsA ns)) v := by
  obtain ⟨n, hn⟩ := h
  obtain ⟨ns, h1, h2⟩ := trod_ints (T := tyTab) (st := Tryz.prog.stoodInHeld) 100 t r n _ _ hi ht hn
  obtain ⟨x, rfl⟩ := hv ns h1 h2
  exact ⟨ns, h2, x, rfl, by rw [show x.toList = intsV ns from h1]; exact relL_ints _ ns⟩
theorem open_list {α : Type} {encX : α → AVal} {t e : TypeId} {r r' : TyRow} (f : List Int → α) (ht : tfind tyTab.tab t = some r') (hd' : r'.d = .slice e) (he : tfind tyTab.tab e = some r) (hi : allInt tyTab.tab Tryz.prog.stoodInHeld 100 e = true) (hz : r.size ≠ 0) (h1 : aggB r.d = false → r.size = 1)
    (hf : ∀ ns : List Int, ns.length = r.size → encX (f ns) = rowA (aggB r.d) ns) (hv : ∃ a l c, v = .slice a l c) (h : DataW.Trod enc Tryz.prog W 0 (fun _ => true) true t v d p) : ∃ m : List α, m.length ≤ maxLen ∧ Rel (out W) (.sl (m.map encX)) v := by
  obtain ⟨a, l, c, rfl⟩ := hv
  obtain ⟨n, hn⟩ := h
  obtain ⟨nss, g1, g2, g3⟩ := open_rows (T := tyTab) (st := Tryz.prog.stoodInHeld) (n := 100) ht hd' he hi hz h1 hn
  refine ⟨nss.map f, by simpa using g2, ?_⟩
  have : (nss.map f).map encX = nss.map (rowA (aggB r.d)) := by
    rw [List.map_map]
    exact List.map_congr_left fun ns hns => hf ns (g1 ns hns)
  rw [this]
  exact g3
theorem one_ints : ∀ {ns : List Int}, ns.length = 1 → ∃ a, ns = [a]
  | [a], _ => ⟨a, rfl⟩
theorem two_ints : ∀ {ns : List Int}, ns.length = 2 → ∃ a b, ns = [a, b]
  | [a, b], _ => ⟨a, b, rfl⟩
theorem four_ints : ∀ {ns : List Int}, ns.length = 4 → ∃ a b c d, ns = [a, b, c, d]
  | [a, b, c, d], _ => ⟨a, b, c, d, rfl⟩
theorem agg_of {n : Nat} {ns : List Int} (h : v.cells.toList = intsV ns) (hl : ns.length = n) (hn : n ≠ 1) : ∃ x, v = .agg x := by
  cases v with
  | agg x => exact ⟨x, rfl⟩
  | _ => (have := congrArg List.length h; simp [Value.cells, intsV] at this; omega)
theorem open_instrs (hv : ∃ a l c, v = .slice a l c) (h : DataW.Trod enc Tryz.prog W 0 (fun _ => true) true 26 v d p) : ∃ l : List AL.Ins, l.length ≤ maxLen ∧ Rel (out W) (encIs l) v :=
  open_list (fun ns => ⟨ns.headD 0, ns.tail.headD 0, ns.tail.tail.headD 0, ns.tail.tail.tail.headD 0⟩) rfl rfl rfl (by kernel_rfl) (by decide) (fun h => by cases h) (fun ns hn => by obtain ⟨a, b, c, d, rfl⟩ := four_ints hn; rfl) hv h
theorem open_acts (hv : ∃ a l c, v = .slice a l c) (h : DataW.Trod enc Tryz.prog W 0 (fun _ => true) true 46 v d p) : ∃ m : List AL.Act, m.length ≤ maxLen ∧ Rel (out W) (.sl (m.map encAct)) v :=
  open_list (fun ns => ⟨ns.headD 0, ns.tail.headD 0⟩) rfl rfl rfl (by kernel_rfl) (by decide) (fun h => by cases h) (fun ns hn => by obtain ⟨a, b, rfl⟩ := two_ints hn; rfl) hv h
theorem open_act (h : DataW.Trod enc Tryz.prog W 0 (fun _ => true) true 51 v d p) : ∃ c : AL.Act, True ∧ Rel (out W) (encAct c) v := by
  obtain ⟨ns, h1, h2⟩ := open_agg (t := 51) rfl (by kernel_rfl) rfl h (fun ns h1 h2 => agg_of h1 h2 (by decide))
  obtain ⟨a, b, rfl⟩ := two_ints h1
  exact ⟨⟨a, b⟩, trivial, h2⟩
theorem open_ints (hv : ∃ a l c, v = .slice a l c) (h : DataW.Trod enc Tryz.prog W 0 (fun _ => true) true 23 v d p) : ∃ m : List Int, m.length ≤ maxLen ∧ Rel (out W) (ivs m) v :=
  open_list (fun ns => ns.headD 0) rfl rfl rfl (by kernel_rfl) (by decide) (fun _ => rfl) (fun ns hn => by obtain ⟨a, rfl⟩ := one_ints hn; rfl) hv h
theorem open_int (hv : ∃ n, v = .int .i64 n) (h : DataW.Trod enc Tryz.prog W 0 (fun _ => true) true 3 v d p) : ∃ n : Int, True ∧ Rel (out W) (.v (.int .i64 n)) v := by
  obtain ⟨n, rfl⟩ := hv
  exact ⟨n, trivial, rfl⟩
end
end Go.Proofs.YtpckfmojmgafoaaGreatDoor
end
